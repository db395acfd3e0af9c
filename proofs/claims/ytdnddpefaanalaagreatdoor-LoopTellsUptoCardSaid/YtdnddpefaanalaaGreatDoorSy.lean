/- One of the texts that the proof of the law rests on: it has no condition of its own. -/
import Derived.Test.YtdnddpefaanalaaGreatDoorEvA
/- The evaluator, step by step, on values that are not all known. -/
namespace Go.Ev

section
variable {globs : Nat → Option (List PVal)} {call : CallF} {L : Nat} {d : Option Nat} {os : List MOper} {e : Env} {m : Mem}

theorem sy_get (s t : Nat) (v : PVal) (e : Env) : Env.get ((s, v) :: e) t = if s = t then some v else Env.get e t := by
  simp only [Env.get]
  by_cases h : s = t
  · subst h; simp
  · have : s.beq t = false := by cases hb : s.beq t <;> first | rfl | exact absurd (Nat.eq_of_beq_eq_true hb) h
    simp [this, h]
theorem sy_del (s t : Nat) (v : PVal) (e : Env) : Env.del ((s, v) :: e) t = if s = t then e else (s, v) :: Env.del e t := by
  simp only [Env.del]
  by_cases h : s = t
  · subst h; simp
  · have : s.beq t = false := by cases hb : s.beq t <;> first | rfl | exact absurd (Nat.eq_of_beq_eq_true hb) h
    simp [this, h]
theorem sy_del0 (t : Nat) : Env.del [] t = [] := rfl
theorem sy_put (e : Env) (t : Nat) (v : PVal) : putO e (some t) v = (t, v) :: Env.del e t := rfl
theorem sy_put0 (e : Env) (v : PVal) : putO e none v = e := rfl
theorem sy_mv (t : Nat) (e : Env) : opd globs (.mv t) e = (e.get t).bind fun v => bif v.isFresh then none else some (v, e.del t) := rfl
theorem sy_cp (t : Nat) (e : Env) : opd globs (.cp t) e = (e.get t).bind fun v => bif v.isFresh then none else some (v.nz, e) := rfl
theorem sy_val (v : PVal) (e : Env) : opd globs (.val v) e = some (v, e) := rfl
theorem sy_nil (e : Env) : opds globs [] e = some ([], e) := rfl
theorem sy_cons (x : Opd) (xs : List Opd) (e : Env) : opds globs (x :: xs) e = (opd globs x e).bind fun r => (opds globs xs r.2).map fun s => (r.1 :: s.1, s.2) := rfl

theorem sy_ops0 (s : MSt) : evOps globs call [] s = some s := rfl
/-- An operation that is no first store. -/
def plainOp : MOp → Bool
  | .init .. | .allocF _ => false
  | _ => true

theorem pl_move : plainOp .move = true := rfl
theorem pl_pick : plainOp .pick = true := rfl
theorem pl_box (k : Bool) : plainOp (.box k) = true := rfl
theorem pl_len (k : Nat) : plainOp (.len k) = true := rfl
theorem pl_bin (b : BinOp) : plainOp (.bin b) = true := rfl
theorem pl_un (b : UnOp) : plainOp (.un b) = true := rfl
theorem pl_iface (t : Nat) : plainOp (.iface t) = true := rfl
theorem pl_call : plainOp .call = true := rfl
theorem pl_fadd (k : Nat) : plainOp (.fadd k) = true := rfl
theorem pl_load (a : Bool) (n : Nat) (b : Bool) : plainOp (.load a n b) = true := rfl
theorem pl_idxS (k : Nat) : plainOp (.idxS k) = true := rfl
theorem pl_append (k : Nat) (b : Bool) : plainOp (.append k b) = true := rfl
theorem pl_mkslice (sz n : Nat) (z : List PVal) (ix : List Nat) (b : Bool) : plainOp (.mkslice sz n z ix b) = true := rfl
theorem pl_mm (b : Bool) : plainOp (.mm b) = true := rfl
theorem pl_extract (k : Nat) : plainOp (.extract k) = true := rfl
theorem pl_assert (t : Nat) (z : PVal) : plainOp (.assert t z) = true := rfl
theorem pl_eqvI (b : Bool) : plainOp (.eqvI b) = true := rfl
theorem pl_store (n : Nat) (a b : Bool) : plainOp (.store n a b) = true := rfl
theorem pl_clone (f sz : Nat) (b : Bool) : plainOp (.clone f sz b) = true := rfl
def runOp (globs : Nat → Option (List PVal)) (call : CallF) (d : Option Nat) (op : MOp) (args : List Opd) (s : MSt) : Option MSt :=
  (opds globs args s.env).bind fun r => (core call op r.1 s.mem).bind fun q => bif q.1.isFresh then none else some ⟨putO r.2 d q.1, q.2⟩
theorem sy_op {op : MOp} (h : plainOp op = true) (args : List Opd) (s : MSt) : evOps globs call (⟨d, op, args, none⟩ :: os) s = (runOp globs call d op args s).bind (evOps globs call os) := by
  cases op <;> first | (simp [plainOp] at h; done) | skip
  all_goals
    simp only [evOps, evOper, wanted, Option.bind_some, cond_true, runOp]
    cases opds globs args s.env with
    | none => rfl
    | some r =>
      simp only [Option.bind_some]
      cases core call _ r.1 s.mem with
      | none => rfl
      | some q =>
        simp only [Option.bind_some]
        cases q.1.isFresh <;> rfl
theorem sy_opG {op : MOp} (h : plainOp op = true) (args : List Opd) (t : Nat) (b : Bool) (s : MSt) : evOps globs call (⟨d, op, args, some (t, b)⟩ :: os) s =
    (wanted (some (t, b)) s.env).bind fun w => (bif w then runOp globs call d op args s else some ⟨putO s.env d (.tuple []), s.mem⟩).bind (evOps globs call os) := by
  cases op <;> first | (simp [plainOp] at h; done) | skip
  all_goals
    simp only [evOps, evOper, runOp]
    cases wanted (some (t, b)) s.env with
    | none => rfl
    | some w =>
      simp only [Option.bind_some]
      cases w with
      | false => rfl
      | true =>
        simp only [cond_true]
        cases opds globs args s.env with
        | none => rfl
        | some r =>
          simp only [Option.bind_some]
          cases core call _ r.1 s.mem with
          | none => rfl
          | some q =>
            simp only [Option.bind_some]
            cases q.1.isFresh <;> rfl
theorem so_move  (args : List Opd) (s : MSt) : evOps globs call (⟨d, .move, args, none⟩ :: os) s = (runOp globs call d .move args s).bind (evOps globs call os) := sy_op rfl args s
theorem sg_move  (args : List Opd) (t : Nat) (b : Bool) (s : MSt) : evOps globs call (⟨d, .move, args, some (t, b)⟩ :: os) s = (wanted (some (t, b)) s.env).bind fun w => (bif w then runOp globs call d .move args s else some ⟨putO s.env d (.tuple []), s.mem⟩).bind (evOps globs call os) := sy_opG rfl args t b s
theorem so_pick  (args : List Opd) (s : MSt) : evOps globs call (⟨d, .pick, args, none⟩ :: os) s = (runOp globs call d .pick args s).bind (evOps globs call os) := sy_op rfl args s
theorem sg_pick  (args : List Opd) (t : Nat) (b : Bool) (s : MSt) : evOps globs call (⟨d, .pick, args, some (t, b)⟩ :: os) s = (wanted (some (t, b)) s.env).bind fun w => (bif w then runOp globs call d .pick args s else some ⟨putO s.env d (.tuple []), s.mem⟩).bind (evOps globs call os) := sy_opG rfl args t b s
theorem so_box (z : Bool) (args : List Opd) (s : MSt) : evOps globs call (⟨d, (.box z), args, none⟩ :: os) s = (runOp globs call d (.box z) args s).bind (evOps globs call os) := sy_op rfl args s
theorem sg_box (z : Bool) (args : List Opd) (t : Nat) (b : Bool) (s : MSt) : evOps globs call (⟨d, (.box z), args, some (t, b)⟩ :: os) s = (wanted (some (t, b)) s.env).bind fun w => (bif w then runOp globs call d (.box z) args s else some ⟨putO s.env d (.tuple []), s.mem⟩).bind (evOps globs call os) := sy_opG rfl args t b s
theorem so_len (z : Nat) (args : List Opd) (s : MSt) : evOps globs call (⟨d, (.len z), args, none⟩ :: os) s = (runOp globs call d (.len z) args s).bind (evOps globs call os) := sy_op rfl args s
theorem sg_len (z : Nat) (args : List Opd) (t : Nat) (b : Bool) (s : MSt) : evOps globs call (⟨d, (.len z), args, some (t, b)⟩ :: os) s = (wanted (some (t, b)) s.env).bind fun w => (bif w then runOp globs call d (.len z) args s else some ⟨putO s.env d (.tuple []), s.mem⟩).bind (evOps globs call os) := sy_opG rfl args t b s
theorem so_bin (z : BinOp) (args : List Opd) (s : MSt) : evOps globs call (⟨d, (.bin z), args, none⟩ :: os) s = (runOp globs call d (.bin z) args s).bind (evOps globs call os) := sy_op rfl args s
theorem sg_bin (z : BinOp) (args : List Opd) (t : Nat) (b : Bool) (s : MSt) : evOps globs call (⟨d, (.bin z), args, some (t, b)⟩ :: os) s = (wanted (some (t, b)) s.env).bind fun w => (bif w then runOp globs call d (.bin z) args s else some ⟨putO s.env d (.tuple []), s.mem⟩).bind (evOps globs call os) := sy_opG rfl args t b s
theorem so_un (z : UnOp) (args : List Opd) (s : MSt) : evOps globs call (⟨d, (.un z), args, none⟩ :: os) s = (runOp globs call d (.un z) args s).bind (evOps globs call os) := sy_op rfl args s
theorem sg_un (z : UnOp) (args : List Opd) (t : Nat) (b : Bool) (s : MSt) : evOps globs call (⟨d, (.un z), args, some (t, b)⟩ :: os) s = (wanted (some (t, b)) s.env).bind fun w => (bif w then runOp globs call d (.un z) args s else some ⟨putO s.env d (.tuple []), s.mem⟩).bind (evOps globs call os) := sy_opG rfl args t b s
theorem so_iface (z : Nat) (args : List Opd) (s : MSt) : evOps globs call (⟨d, (.iface z), args, none⟩ :: os) s = (runOp globs call d (.iface z) args s).bind (evOps globs call os) := sy_op rfl args s
theorem sg_iface (z : Nat) (args : List Opd) (t : Nat) (b : Bool) (s : MSt) : evOps globs call (⟨d, (.iface z), args, some (t, b)⟩ :: os) s = (wanted (some (t, b)) s.env).bind fun w => (bif w then runOp globs call d (.iface z) args s else some ⟨putO s.env d (.tuple []), s.mem⟩).bind (evOps globs call os) := sy_opG rfl args t b s
theorem so_call  (args : List Opd) (s : MSt) : evOps globs call (⟨d, .call, args, none⟩ :: os) s = (runOp globs call d .call args s).bind (evOps globs call os) := sy_op rfl args s
theorem sg_call  (args : List Opd) (t : Nat) (b : Bool) (s : MSt) : evOps globs call (⟨d, .call, args, some (t, b)⟩ :: os) s = (wanted (some (t, b)) s.env).bind fun w => (bif w then runOp globs call d .call args s else some ⟨putO s.env d (.tuple []), s.mem⟩).bind (evOps globs call os) := sy_opG rfl args t b s
theorem so_fadd (z : Nat) (args : List Opd) (s : MSt) : evOps globs call (⟨d, (.fadd z), args, none⟩ :: os) s = (runOp globs call d (.fadd z) args s).bind (evOps globs call os) := sy_op rfl args s
theorem sg_fadd (z : Nat) (args : List Opd) (t : Nat) (b : Bool) (s : MSt) : evOps globs call (⟨d, (.fadd z), args, some (t, b)⟩ :: os) s = (wanted (some (t, b)) s.env).bind fun w => (bif w then runOp globs call d (.fadd z) args s else some ⟨putO s.env d (.tuple []), s.mem⟩).bind (evOps globs call os) := sy_opG rfl args t b s
theorem so_load (z : Bool) (y : Nat) (x : Bool) (args : List Opd) (s : MSt) : evOps globs call (⟨d, (.load z y x), args, none⟩ :: os) s = (runOp globs call d (.load z y x) args s).bind (evOps globs call os) := sy_op rfl args s
theorem sg_load (z : Bool) (y : Nat) (x : Bool) (args : List Opd) (t : Nat) (b : Bool) (s : MSt) : evOps globs call (⟨d, (.load z y x), args, some (t, b)⟩ :: os) s = (wanted (some (t, b)) s.env).bind fun w => (bif w then runOp globs call d (.load z y x) args s else some ⟨putO s.env d (.tuple []), s.mem⟩).bind (evOps globs call os) := sy_opG rfl args t b s
theorem so_idxS (z : Nat) (args : List Opd) (s : MSt) : evOps globs call (⟨d, (.idxS z), args, none⟩ :: os) s = (runOp globs call d (.idxS z) args s).bind (evOps globs call os) := sy_op rfl args s
theorem sg_idxS (z : Nat) (args : List Opd) (t : Nat) (b : Bool) (s : MSt) : evOps globs call (⟨d, (.idxS z), args, some (t, b)⟩ :: os) s = (wanted (some (t, b)) s.env).bind fun w => (bif w then runOp globs call d (.idxS z) args s else some ⟨putO s.env d (.tuple []), s.mem⟩).bind (evOps globs call os) := sy_opG rfl args t b s
theorem so_append (z : Nat) (y : Bool) (args : List Opd) (s : MSt) : evOps globs call (⟨d, (.append z y), args, none⟩ :: os) s = (runOp globs call d (.append z y) args s).bind (evOps globs call os) := sy_op rfl args s
theorem sg_append (z : Nat) (y : Bool) (args : List Opd) (t : Nat) (b : Bool) (s : MSt) : evOps globs call (⟨d, (.append z y), args, some (t, b)⟩ :: os) s = (wanted (some (t, b)) s.env).bind fun w => (bif w then runOp globs call d (.append z y) args s else some ⟨putO s.env d (.tuple []), s.mem⟩).bind (evOps globs call os) := sy_opG rfl args t b s
theorem so_mkslice (z y : Nat) (x : List PVal) (ix : List Nat) (v : Bool) (args : List Opd) (s : MSt) : evOps globs call (⟨d, (.mkslice z y x ix v), args, none⟩ :: os) s = (runOp globs call d (.mkslice z y x ix v) args s).bind (evOps globs call os) := sy_op rfl args s
theorem sg_mkslice (z y : Nat) (x : List PVal) (ix : List Nat) (v : Bool) (args : List Opd) (t : Nat) (b : Bool) (s : MSt) : evOps globs call (⟨d, (.mkslice z y x ix v), args, some (t, b)⟩ :: os) s = (wanted (some (t, b)) s.env).bind fun w => (bif w then runOp globs call d (.mkslice z y x ix v) args s else some ⟨putO s.env d (.tuple []), s.mem⟩).bind (evOps globs call os) := sy_opG rfl args t b s
theorem so_mm (z : Bool) (args : List Opd) (s : MSt) : evOps globs call (⟨d, (.mm z), args, none⟩ :: os) s = (runOp globs call d (.mm z) args s).bind (evOps globs call os) := sy_op rfl args s
theorem sg_mm (z : Bool) (args : List Opd) (t : Nat) (b : Bool) (s : MSt) : evOps globs call (⟨d, (.mm z), args, some (t, b)⟩ :: os) s = (wanted (some (t, b)) s.env).bind fun w => (bif w then runOp globs call d (.mm z) args s else some ⟨putO s.env d (.tuple []), s.mem⟩).bind (evOps globs call os) := sy_opG rfl args t b s
theorem so_extract (z : Nat) (args : List Opd) (s : MSt) : evOps globs call (⟨d, (.extract z), args, none⟩ :: os) s = (runOp globs call d (.extract z) args s).bind (evOps globs call os) := sy_op rfl args s
theorem sg_extract (z : Nat) (args : List Opd) (t : Nat) (b : Bool) (s : MSt) : evOps globs call (⟨d, (.extract z), args, some (t, b)⟩ :: os) s = (wanted (some (t, b)) s.env).bind fun w => (bif w then runOp globs call d (.extract z) args s else some ⟨putO s.env d (.tuple []), s.mem⟩).bind (evOps globs call os) := sy_opG rfl args t b s
theorem so_assert (z : Nat) (y : PVal) (args : List Opd) (s : MSt) : evOps globs call (⟨d, (.assert z y), args, none⟩ :: os) s = (runOp globs call d (.assert z y) args s).bind (evOps globs call os) := sy_op rfl args s
theorem sg_assert (z : Nat) (y : PVal) (args : List Opd) (t : Nat) (b : Bool) (s : MSt) : evOps globs call (⟨d, (.assert z y), args, some (t, b)⟩ :: os) s = (wanted (some (t, b)) s.env).bind fun w => (bif w then runOp globs call d (.assert z y) args s else some ⟨putO s.env d (.tuple []), s.mem⟩).bind (evOps globs call os) := sy_opG rfl args t b s
theorem so_eqvI (z : Bool) (args : List Opd) (s : MSt) : evOps globs call (⟨d, (.eqvI z), args, none⟩ :: os) s = (runOp globs call d (.eqvI z) args s).bind (evOps globs call os) := sy_op rfl args s
theorem sg_eqvI (z : Bool) (args : List Opd) (t : Nat) (b : Bool) (s : MSt) : evOps globs call (⟨d, (.eqvI z), args, some (t, b)⟩ :: os) s = (wanted (some (t, b)) s.env).bind fun w => (bif w then runOp globs call d (.eqvI z) args s else some ⟨putO s.env d (.tuple []), s.mem⟩).bind (evOps globs call os) := sy_opG rfl args t b s
theorem so_store (z : Nat) (y x : Bool) (args : List Opd) (s : MSt) : evOps globs call (⟨d, (.store z y x), args, none⟩ :: os) s = (runOp globs call d (.store z y x) args s).bind (evOps globs call os) := sy_op rfl args s
theorem sg_store (z : Nat) (y x : Bool) (args : List Opd) (t : Nat) (b : Bool) (s : MSt) : evOps globs call (⟨d, (.store z y x), args, some (t, b)⟩ :: os) s = (wanted (some (t, b)) s.env).bind fun w => (bif w then runOp globs call d (.store z y x) args s else some ⟨putO s.env d (.tuple []), s.mem⟩).bind (evOps globs call os) := sy_opG rfl args t b s
theorem so_clone (z y : Nat) (x : Bool) (args : List Opd) (s : MSt) : evOps globs call (⟨d, (.clone z y x), args, none⟩ :: os) s = (runOp globs call d (.clone z y x) args s).bind (evOps globs call os) := sy_op rfl args s
theorem sg_clone (z y : Nat) (x : Bool) (args : List Opd) (t : Nat) (b : Bool) (s : MSt) : evOps globs call (⟨d, (.clone z y x), args, some (t, b)⟩ :: os) s = (wanted (some (t, b)) s.env).bind fun w => (bif w then runOp globs call d (.clone z y x) args s else some ⟨putO s.env d (.tuple []), s.mem⟩).bind (evOps globs call os) := sy_opG rfl args t b s
theorem so_fld (z : Bool) (y x : Nat) (args : List Opd) (s : MSt) : evOps globs call (⟨d, (.fld z y x), args, none⟩ :: os) s = (runOp globs call d (.fld z y x) args s).bind (evOps globs call os) := sy_op rfl args s
theorem sg_fld (z : Bool) (y x : Nat) (args : List Opd) (t : Nat) (b : Bool) (s : MSt) : evOps globs call (⟨d, (.fld z y x), args, some (t, b)⟩ :: os) s = (wanted (some (t, b)) s.env).bind fun w => (bif w then runOp globs call d (.fld z y x) args s else some ⟨putO s.env d (.tuple []), s.mem⟩).bind (evOps globs call os) := sy_opG rfl args t b s
theorem sy_wanted (t : Nat) (b : Bool) (e : Env) : wanted (some (t, b)) e = match e.get t with | some (.bool c) => some (c == b) | some _ => some false | none => none := rfl

theorem sy_skip (s : MSt) : evCode globs call L .skip s = some (.normal, s) := rfl
theorem sy_exit (i : Nat) (s : MSt) : evCode globs call L (.exit i) s = some (.exit i, s) := rfl
theorem sy_ret (s : MSt) : evCode globs call L .ret s = some (.ret, s) := rfl
theorem sy_region (ops : List MOper) (s : MSt) : evCode globs call L (.region ops []) s = (evOps globs call ops s).map fun s' => (.normal, s') := rfl
theorem sy_seq (a b : MCode) (s : MSt) : evCode globs call L (.seq a b) s = (evCode globs call L a s).bind fun r => match r.1 with | .normal => evCode globs call L b r.2 | x => some (x, r.2) := rfl
theorem sy_cond (c : Opd) (a b : MCode) (s : MSt) : evCode globs call L (.cond c a b) s = match opd globs c s.env with | some (.bool t, e) => bif t then evCode globs call L a ⟨e, s.mem⟩ else evCode globs call L b ⟨e, s.mem⟩ | _ => none := rfl
theorem sy_block (id : Nat) (b : MCode) (s : MSt) : evCode globs call L (.block id b) s = (evCode globs call L b s).map fun r => match r.1 with | .exit i => bif i.beq id then (.normal, r.2) else r | _ => r := rfl
theorem sy_loop (tr : Bool) (b : MCode) (s : MSt) : evCode globs call L (.loop tr b) s = evLoop tr (evCode globs call L b) L s := rfl

-- operations
theorem sy_move (v : PVal) : core call .move [v] m = some (v, m) := rfl
theorem sy_pick (t : Bool) (a b : PVal) : core call .pick [.bool t, a, b] m = some (bif t then a else b, m) := rfl
theorem sy_bin (op : BinOp) (x y : PVal) : core call (.bin op) [x, y] m = (binop op x y).map fun v => (v, m) := rfl
theorem sy_len (xs : List (List PVal)) (c : Cap) : core call (.len 0) [.slice xs c] m = some (.int .i64 xs.length, m) := rfl
theorem sy_iface (t : Nat) (x : PVal) : core call (.iface t) [x] m = bif x.flat then some (.iface t x, m) else none := rfl
theorem sy_not (b : Bool) : core call (.un .not) [.bool b] m = some (.bool (!b), m) := rfl
theorem sy_eqvI (neg : Bool) (x y : PVal) : core call (.eqvI neg) [x, y] m = (sameNilI x y).map fun t => (.bool (bif neg then !t else t), m) := rfl
theorem sy_call (f : PVal) (xs : List PVal) : core call .call (f :: xs) m = call f (xs.map PVal.nz1) m := rfl
theorem sy_mm (b : Bool) (k : IntKind) (x : Int) (xs : List PVal) : core call (.mm b) (.int k x :: xs) m = (mmI b k x xs).map fun v => (v, m) := rfl
theorem sy_fadd (off id o : Nat) : core call (.fadd off) [.ptr id o] m = some (.ptr id (o + off), m) := rfl
theorem sy_faddE (off : Nat) (cs : List PVal) : core call (.fadd off) [.eptr cs] m = bif Nat.ble off cs.length then some (.eptr (cs.drop off), m) else none := rfl
theorem sy_load (agg : Bool) (n : Nat) (p : PVal) : core call (.load agg n false) [p] m = (readAt m p n).bind fun cs => (cell1 agg cs).map fun v => (v, m) := rfl
theorem sy_box (keep : Bool) (v : PVal) : core call (.box keep) [v] m = (cellsOf (bif keep then v else v.nz1)).map fun cs => (.ptr m.next 0, m.push (.cells cs)) := rfl
theorem sy_idxS (sz : Nat) (xs : List (List PVal)) (c : Cap) (i : PVal) : core call (.idxS sz) [.slice xs c, i] m = (natOf i).bind fun i => (xs[i]?).bind fun c => bif c.length.beq sz then some (.eptr c, m) else none := rfl
theorem sy_extract (i : Nat) (vs : List PVal) : core call (.extract i) [.tuple vs] m = (vs[i]?).map fun v => (v.nz1, m) := rfl
theorem sy_assert (t : Nat) (z x : PVal) : core call (.assert t z) [x] m = match x with | .niliface => some (.tuple [z, .bool false], m) | .iface u v => some (bif t.beq u then .tuple [v, .bool true] else .tuple [z, .bool false], m) | _ => none := by cases x <;> rfl

theorem sy_eql (k : IntKind) (a b : Int) : binop .eql (.int k a) (.int k b) = some (.bool (a == b)) := by simp [binop, isShift, intBin]
theorem sy_neq (k : IntKind) (a b : Int) : binop .neq (.int k a) (.int k b) = some (.bool (a != b)) := by simp [binop, isShift, intBin]
theorem sy_lss (k : IntKind) (a b : Int) : binop .lss (.int k a) (.int k b) = some (.bool (decide (a < b))) := by simp [binop, isShift, intBin]
theorem sy_gtr (k : IntKind) (a b : Int) : binop .gtr (.int k a) (.int k b) = some (.bool (decide (a > b))) := by simp [binop, isShift, intBin]
theorem sy_geq (k : IntKind) (a b : Int) : binop .geq (.int k a) (.int k b) = some (.bool (decide (a ≥ b))) := by simp [binop, isShift, intBin]
theorem sy_mul (k : IntKind) (a b : Int) : binop .mul (.int k a) (.int k b) = some (.int k (k.wrap (a * b))) := by simp [binop, isShift, intBin, wrapI]
theorem sy_add (k : IntKind) (a b : Int) : binop .add (.int k a) (.int k b) = some (.int k (k.wrap (a + b))) := by simp [binop, isShift, intBin, wrapI]
theorem sy_rem (k : IntKind) (a b : Int) : binop .rem (.int k a) (.int k b) = if b = 0 then none else some (.int k (a.tmod b)) := by
  by_cases h : b = 0
  · simp [binop, isShift, intBin, h]
  · have hb : (b == 0) = false := by simpa using h
    simp [binop, isShift, intBin, h, hb]

-- values
theorem nz_int (k : IntKind) (n : Int) : (PVal.int k n).nz = .int k n := rfl
theorem nz_bool (b : Bool) : (PVal.bool b).nz = .bool b := rfl
theorem nz_slice (xs : List (List PVal)) (c : Cap) : (PVal.slice xs c).nz = .slice xs .no := rfl
theorem nz_ptr (i o : Nat) : (PVal.ptr i o).nz = .ptr i o := rfl
theorem nz_iface (t : Nat) (v : PVal) : (PVal.iface t v).nz = .iface t v := rfl
theorem nz_niliface : (PVal.niliface).nz = .niliface := rfl
theorem nz_tuple (vs : List PVal) : (PVal.tuple vs).nz = .tuple (vs.map PVal.nz1) := rfl
theorem nz_agg (cs : List PVal) : (PVal.agg cs).nz = .agg (cs.map PVal.nz0) := rfl
theorem nz1_int (k : IntKind) (n : Int) : (PVal.int k n).nz1 = .int k n := rfl
theorem nz1_bool (b : Bool) : (PVal.bool b).nz1 = .bool b := rfl
theorem nz1_slice (xs : List (List PVal)) (c : Cap) : (PVal.slice xs c).nz1 = .slice xs .no := rfl
theorem nz1_iface (t : Nat) (v : PVal) : (PVal.iface t v).nz1 = .iface t v := rfl
theorem nz1_niliface : (PVal.niliface).nz1 = .niliface := rfl
theorem nz1_agg (cs : List PVal) : (PVal.agg cs).nz1 = .agg (cs.map PVal.nz0) := rfl
theorem nz0_int (k : IntKind) (n : Int) : (PVal.int k n).nz0 = .int k n := rfl
theorem nz0_slice (xs : List (List PVal)) (c : Cap) : (PVal.slice xs c).nz0 = .slice xs .no := rfl
theorem fr_int (k : IntKind) (n : Int) : (PVal.int k n).isFresh = false := rfl
theorem fr_bool (b : Bool) : (PVal.bool b).isFresh = false := rfl
theorem fr_slice (xs : List (List PVal)) (c : Cap) : (PVal.slice xs c).isFresh = false := rfl
theorem fr_ptr (i o : Nat) : (PVal.ptr i o).isFresh = false := rfl
theorem fr_eptr (cs : List PVal) : (PVal.eptr cs).isFresh = false := rfl
theorem fr_iface (t : Nat) (v : PVal) : (PVal.iface t v).isFresh = false := rfl
theorem fr_niliface : (PVal.niliface).isFresh = false := rfl
theorem fr_agg (cs : List PVal) : (PVal.agg cs).isFresh = false := rfl
theorem fr_tuple (cs : List PVal) : (PVal.tuple cs).isFresh = false := rfl
theorem fl_int (k : IntKind) (n : Int) : (PVal.int k n).flat = true := rfl
theorem sy_start0 (i : Nat) : startEnv i [] = [] := rfl
theorem sy_start (i : Nat) (v : PVal) (vs : List PVal) : startEnv i (v :: vs) = bif v.isFresh then startEnv (i + 1) vs else (i, v) :: startEnv (i + 1) vs := rfl
theorem sy_beq (a b : Nat) : a.beq b = decide (a = b) := by
  by_cases h : a = b
  · subst h; simp
  · have : a.beq b = false := by cases hb : a.beq b <;> first | rfl | exact absurd (Nat.eq_of_beq_eq_true hb) h
    simp [this, h]
theorem bb_tt : (true == true) = true := rfl
theorem bb_tf : (true == false) = false := rfl
theorem bb_ft : (false == true) = false := rfl
theorem bb_ff : (false == false) = true := rfl
theorem sy_isNil1 (t : Nat) (v : PVal) : sameNilI (.iface t v) .niliface = some false := rfl
theorem sy_isNil2 : sameNilI .niliface .niliface = some true := rfl

/-- A function that keeps no right, and freezes nothing. -/
theorem sy_finish {fn : MFunc} {r : PVal} {s : MSt} {n t : Nat} (h1 : fn.results = [.tmp t]) (h2 : fn.keep = false) (h3 : fn.freeze = false) (h4 : s.env.get t = some r) (h5 : r.isFresh = false) (h6 : s.mem.next = n) :
    finish fn n s = some (r.nz1, s.mem) := by
  subst h6
  simp [finish, h1, h2, h3, evRes, h4, h5, packRes, cutFor]

abbrev noext : Nat → Option (List PVal → Mem → Option (PVal × Mem)) := fun _ => none
theorem sy_fn {tab : Nat → Option MFunc} {k f : Nat} {fn : MFunc} {args : List PVal} (h : tab f = some fn) :
    evFn globs tab noext L (k + 1) (.func f []) args m = (evCode globs (evFn globs tab noext L k) L fn.body ⟨startEnv 0 args, m⟩).bind fun r => match r.1 with | .exit _ => none | _ => finish fn m.next r.2 := by
  simp only [evFn, h, List.map_nil, List.append_nil]
  rfl

theorem sy_ex {tab : Nat → Option MFunc} {k f : Nat} {fn : MFunc} {args : List PVal} {v : PVal} {mm' : Mem} (t : Nat) (h : tab f = some fn) (h1 : fn.results = [.tmp t]) (h2 : fn.keep = false) (h3 : fn.freeze = false)
    (hc : ∃ x s' r, evCode globs (evFn globs tab noext L k) L fn.body ⟨startEnv 0 args, m⟩ = some (x, s') ∧ (x = .ret ∨ x = .normal) ∧ s'.env.get t = some r ∧ r.isFresh = false ∧ r.nz1 = v ∧ s'.mem = mm') (h7 : mm'.next = m.next) :
    evFn globs tab noext L (k + 1) (.func f []) args m = some (v, mm') := by
  obtain ⟨x, s', r, hc, hx, h4, h5, rfl, rfl⟩ := hc
  rw [sy_fn h, hc]
  rcases hx with rfl | rfl
  · exact sy_finish h1 h2 h3 h4 h5 h7
  · exact sy_finish h1 h2 h3 h4 h5 h7

end
end Go.Ev

