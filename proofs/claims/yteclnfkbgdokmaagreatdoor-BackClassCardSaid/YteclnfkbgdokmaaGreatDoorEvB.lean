/- One of the texts that the proof of the law rests on: it has no condition of its own. -/
import Derived.Test.YteclnfkbgdokmaaGreatDoorEvA
import Derived.Orders
import Derived.Laws.Tables
import Derived.Laws.World
import Derived.Laws.Cells
import Derived.Laws.CopyRow
import Derived.Laws.Entries
import Derived.ChangeKeysEq
import Derived.Laws.Strings
import Derived.Great.FillDense
/- What a value of the evaluator says of one of the model's, in a state of which a ghost is kept: which block an object lies in, and what is told of rows that aren't written any more. -/
namespace Go.Ev

structure Row where
  cells : List Value
  size : Nat
  elem : TypeId
  free : Bool

structure Gh where
  φ : List Nat
  lg : Nat → Option Row
  /-- how many cells an object's block has -/
  bs : Nat → Nat
  /-- which code a loop's rounds may be -/
  R : Code → MCode → Nat → Prop

/-- An object more. -/
def Gh.app (g : Gh) (b n : Nat) : Gh := ⟨g.φ ++ [b], g.lg, fun k => if k = b then n else g.bs k, g.R⟩

inductive VR (g : Gh) : PVal → Value → Prop
  | bool (b : Bool) : VR g (.bool b) (.bool b)
  | int (k : IntKind) (n : Int) : VR g (.int k n) (.int k n)
  | str (s : List UInt8) : VR g (.str s) (.string ⟨s.toArray⟩)
  | ptr {id off b : Nat} : g.φ[id]? = some b → VR g (.ptr id off) (.pointer (some ⟨b, off, none⟩))
  | eptr {cs : List PVal} {b off : Nat} {row : Row} (vs : Nat → Value) : g.lg b = some row → (∀ c, c ∈ cs → c.flat = true) →
      (∀ (j : Nat) c, cs[j]? = some c → row.cells[off + j]? = some (vs j)) → (∀ (j : Nat) c, cs[j]? = some c → VR g c (vs j)) →
      VR g (.eptr cs) (.pointer (some ⟨b, off, none⟩))
  | nilptr : VR g .nilptr (.pointer none)
  | slice0 {c : Cap} {a : Option Addr} {cap : Nat} : (c = .exact → cap = 0) → VR g (.slice [] c) (.slice a 0 cap)
  | slice {xs : List (List PVal)} {c : Cap} {b off cap : Nat} {row : Row} (sz : Nat) (vs : Nat → Nat → Value) : xs ≠ [] → g.lg b = some row → xs.length ≤ cap →
      (c = .exact → cap = xs.length) → (∀ x, x ∈ xs → x.length = sz ∧ ∀ c, c ∈ x → c.flat = true) →
      (∀ (i : Nat) x (j : Nat) c, xs[i]? = some x → x[j]? = some c → row.cells[off + i * sz + j]? = some (vs i j)) →
      (∀ (i : Nat) x (j : Nat) c, xs[i]? = some x → x[j]? = some c → VR g c (vs i j)) →
      VR g (.slice xs c) (.slice (some ⟨b, off, none⟩) xs.length cap)
  | oslice {sz id off len cap : Nat} {a : Option Addr} {cap' : Nat} : len ≤ cap → cap ≤ cap' →
      (∃ b, g.φ[id]? = some b ∧ (cap' ≠ 0 → a = some ⟨b, off, none⟩) ∧ (cap' = cap ∨ off + cap' * sz ≤ g.bs b)) → VR g (.oslice sz id off len cap) (.slice a len cap')
  | map {id b : Nat} : g.φ[id]? = some b → VR g (.map id) (.map (some b))
  | nilmap : VR g .nilmap (.map none)
  | func {f : Nat} {caps : List PVal} {vs : Array Value} : caps.length = vs.size → (∀ (i : Nat) c, caps[i]? = some c → c.isCap = true) →
      (∀ (i : Nat) c, caps[i]? = some c → VR g c (vs.getD i undef)) → VR g (.func f caps) (.func (.func f) #[] vs)
  | nilfunc : VR g .nilfunc .nilFunc
  | iface {t : Nat} {p : PVal} {v : Value} : p.flat = true → VR g p v → VR g (.iface t p) (.iface t v)
  | niliface : VR g .niliface .nilIface
  | yield {id b : Nat} : g.φ[id]? = some b → VR g (.yield id) (.func (.yield b) #[] #[])
  | fresh {z : List PVal} {b : Nat} : VR g (.fresh z) (.pointer (some ⟨b, 0, none⟩))
  | agg {cs : List PVal} {vs : Array Value} : cs.length = vs.size → (∀ c, c ∈ cs → c.isCell = true) →
      (∀ (i : Nat) c, cs[i]? = some c → VR g c (vs.getD i undef)) → VR g (.agg cs) (.agg vs)
  | tuple {cs : List PVal} {vs : Array Value} : cs.length = vs.size →
      (∀ (i : Nat) c, cs[i]? = some c → VR g c (vs.getD i undef)) → VR g (.tuple cs) (.tuple vs)

def obSize : Obj → Nat
  | .cells c _ _ => c.size
  | _ => 0

structure Gh.Le (g g' : Gh) : Prop where
  φ : ∀ (id b : Nat), g.φ[id]? = some b → g'.φ[id]? = some b
  lg : ∀ b row, g.lg b = some row → ∃ row', g'.lg b = some row' ∧ row.cells <+: row'.cells
  bs : ∀ (id b : Nat), g.φ[id]? = some b → g'.bs b = g.bs b
  R : g'.R = g.R

theorem Gh.Le.refl (g : Gh) : g.Le g := ⟨fun _ _ h => h, fun _ row h => ⟨row, h, List.prefix_refl _⟩, fun _ _ _ => rfl, rfl⟩
theorem Gh.app_le {g : Gh} {b n : Nat} (h : ∀ id : Nat, g.φ[id]? = some b → n = g.bs b) : g.Le (g.app b n) :=
  ⟨fun id k e => by
    have hi : id < g.φ.length := (List.getElem?_eq_some_iff.1 e).1
    show (g.φ ++ [b])[id]? = some k
    rw [List.getElem?_append_left hi]; exact e, fun k row e => ⟨row, e, List.prefix_refl _⟩, fun id k e => by
    show (if k = b then n else g.bs k) = g.bs k
    by_cases hk : k = b
    · subst hk; rw [if_pos rfl]; exact h id e
    · rw [if_neg hk], rfl⟩
theorem Gh.Le.trans {g g' g'' : Gh} (h : g.Le g') (h' : g'.Le g'') : g.Le g'' :=
  ⟨fun id b e => h'.φ id b (h.φ id b e), fun b row e => by
    obtain ⟨r1, e1, p1⟩ := h.lg b row e
    obtain ⟨r2, e2, p2⟩ := h'.lg b r1 e1
    exact ⟨r2, e2, p1.trans p2⟩, fun id b e => (h'.bs id b (h.φ id b e)).trans (h.bs id b e), h'.R.trans h.R⟩

theorem pre_get {α : Type} {l l' : List α} {i : Nat} {x : α} (h : l <+: l') (e : l[i]? = some x) : l'[i]? = some x := by
  obtain ⟨t, rfl⟩ := h
  have hi : i < l.length := (List.getElem?_eq_some_iff.1 e).1
  rw [List.getElem?_append_left hi]; exact e

theorem VR.mono {g g' : Gh} {p : PVal} {v : Value} (h : VR g p v) (hg : g.Le g') : VR g' p v := by
  induction h with
  | bool b => exact .bool b
  | int k n => exact .int k n
  | str s => exact .str s
  | ptr e => exact .ptr (hg.φ _ _ e)
  | eptr vs hl hf hc _ ih =>
    obtain ⟨row', e, hp⟩ := hg.lg _ _ hl
    exact .eptr vs e hf (fun j c h => pre_get hp (hc j c h)) ih
  | nilptr => exact .nilptr
  | slice0 h => exact .slice0 h
  | slice sz vs hne hl hcap hex hsz hc _ ih =>
    obtain ⟨row', e, hp⟩ := hg.lg _ _ hl
    exact .slice sz vs hne e hcap hex hsz (fun i x j c h h' => pre_get hp (hc i x j c h h')) ih
  | oslice h1 h2 h3 => exact .oslice h1 h2 (let ⟨b, e, ha, hc⟩ := h3; ⟨b, hg.φ _ _ e, ha, by rw [hg.bs _ _ e]; exact hc⟩)
  | map e => exact .map (hg.φ _ _ e)
  | nilmap => exact .nilmap
  | func hl hc _ ih => exact .func hl hc ih
  | nilfunc => exact .nilfunc
  | iface hf _ ih => exact .iface hf ih
  | niliface => exact .niliface
  | yield e => exact .yield (hg.φ _ _ e)
  | fresh => exact .fresh
  | agg hl hc _ ih => exact .agg hl hc ih
  | tuple hl _ ih => exact .tuple hl ih

/-- What holds no object's number hangs on the rows alone. -/
theorem VR.flat {g g' : Gh} {p : PVal} {v : Value} (h : VR g p v) (hf : p.flat = true) (hg : ∀ b row, g.lg b = some row → ∃ row', g'.lg b = some row' ∧ row.cells <+: row'.cells) : VR g' p v := by
  induction h with
  | bool b => exact .bool b
  | int k n => exact .int k n
  | str s => exact .str s
  | ptr e => simp [PVal.flat] at hf
  | eptr vs hl hf' hc _ ih =>
    obtain ⟨row', e, hp⟩ := hg _ _ hl
    exact .eptr vs e hf' (fun j c h => pre_get hp (hc j c h)) fun j c h => ih j c h (hf' c (List.mem_of_getElem? h))
  | nilptr => exact .nilptr
  | slice0 h => exact .slice0 h
  | slice sz vs hne hl hcap hex hsz hc _ ih =>
    obtain ⟨row', e, hp⟩ := hg _ _ hl
    exact .slice sz vs hne e hcap hex hsz (fun i x j c h h' => pre_get hp (hc i x j c h h')) fun i x j c h h' =>
      ih i x j c h h' ((hsz x (List.mem_of_getElem? h)).2 c (List.mem_of_getElem? h'))
  | oslice h1 h2 h3 => simp [PVal.flat] at hf
  | map e => simp [PVal.flat] at hf
  | nilmap => exact .nilmap
  | @func f caps vs hl hc h ih =>
    have : caps = [] := by simpa [PVal.flat] using hf
    subst this
    exact .func hl hc (fun i c h => by simp at h)
  | nilfunc => exact .nilfunc
  | iface hf' _ ih => exact .iface hf' (ih hf')
  | niliface => exact .niliface
  | yield e => simp [PVal.flat] at hf
  | fresh => exact .fresh
  | agg hl hc _ ih => simp [PVal.flat] at hf
  | tuple hl _ ih => simp [PVal.flat] at hf

def Gh.cut (g : Gh) (n : Nat) : Gh := ⟨g.φ.take n, g.lg, g.bs, g.R⟩

theorem take_get {α : Type} {l : List α} {n i : Nat} {x : α} (hi : i < n) (e : l[i]? = some x) : (l.take n)[i]? = some x := by
  rw [List.getElem?_take_of_lt hi]; exact e

theorem VR.under0 {g : Gh} {p : PVal} {v : Value} {n : Nat} (h : VR g p v) (hu : p.under0 n = true) : VR (g.cut n) p v := by
  have fl : p.flat = true → VR (g.cut n) p v := fun hf => h.flat hf fun b row e => ⟨row, e, List.prefix_refl _⟩
  cases h with
  | ptr e => exact .ptr (take_get (by simpa [PVal.under0] using hu) e)
  | oslice h1 h2 h3 => exact .oslice h1 h2 (let ⟨b, e, ha⟩ := h3; ⟨b, take_get (by simpa [PVal.under0] using hu) e, ha⟩)
  | map e => exact .map (take_get (by simpa [PVal.under0] using hu) e)
  | yield e => exact .yield (take_get (by simpa [PVal.under0] using hu) e)
  | _ => exact fl (by simpa [PVal.under0] using hu)

theorem VR.under1 {g : Gh} {p : PVal} {v : Value} {n : Nat} (h : VR g p v) (hu : p.under1 n = true) : VR (g.cut n) p v := by
  cases h with
  | func hl hc h =>
    refine .func hl hc fun i c e => (h i c e).under0 ?_
    simp only [PVal.under1, List.all_eq_true] at hu
    exact hu c (List.mem_of_getElem? e)
  | bool => exact VR.under0 (.bool _) hu
  | int => exact VR.under0 (.int _ _) hu
  | str => exact VR.under0 (.str _) hu
  | ptr e => exact VR.under0 (.ptr e) hu
  | eptr vs a b c d => exact VR.under0 (.eptr vs a b c d) hu
  | nilptr => exact .nilptr
  | slice0 a => exact .slice0 a
  | slice sz vs a b c d e f i => exact VR.under0 (.slice sz vs a b c d e f i) hu
  | oslice a b c => exact VR.under0 (.oslice a b c) hu
  | map e => exact VR.under0 (.map e) hu
  | yield e => exact VR.under0 (.yield e) hu
  | nilmap => exact .nilmap
  | nilfunc => exact .nilfunc
  | iface a b => exact VR.under0 (.iface a b) hu
  | niliface => exact .niliface
  | fresh => exact .fresh
  | agg a b c => exact VR.under0 (.agg a b c) hu
  | tuple a b => exact VR.under0 (.tuple a b) hu

theorem VR.under2 {g : Gh} {p : PVal} {v : Value} {n : Nat} (h : VR g p v) (hu : p.under2 n = true) : VR (g.cut n) p v := by
  by_cases ha : ∃ cs, p = .agg cs
  · obtain ⟨cs, rfl⟩ := ha
    cases h with
    | agg hl hc h =>
      refine .agg hl hc fun i c e => (h i c e).under1 ?_
      simp only [PVal.under2, List.all_eq_true] at hu
      exact hu c (List.mem_of_getElem? e)
  · refine h.under1 ?_
    cases p <;> first | exact hu | exact (ha ⟨_, rfl⟩).elim

theorem VR.under {g : Gh} {p : PVal} {v : Value} {n : Nat} (h : VR g p v) (hu : p.under n = true) : VR (g.cut n) p v := by
  by_cases ha : ∃ cs, p = .tuple cs
  · obtain ⟨cs, rfl⟩ := ha
    cases h with
    | tuple hl h =>
      refine .tuple hl fun i c e => (h i c e).under2 ?_
      simp only [PVal.under, List.all_eq_true] at hu
      exact hu c (List.mem_of_getElem? e)
  · refine h.under2 ?_
    cases p <;> first | exact hu | exact (ha ⟨_, rfl⟩).elim

theorem Cap.nz_exact {c : Cap} (h : c.nz = .exact) : c = .exact := by cases c <;> first | rfl | cases h
theorem VR.nz0 {g : Gh} {p : PVal} {v : Value} (h : VR g p v) : VR g p.nz0 v := by
  cases h with
  | slice0 h => exact .slice0 fun e => h (Cap.nz_exact e)
  | slice sz vs a b c d e f i => exact .slice sz vs a b c (fun e => d (Cap.nz_exact e)) e f i
  | bool => exact .bool _
  | int => exact .int _ _
  | str => exact .str _
  | ptr e => exact .ptr e
  | eptr vs a b c d => exact .eptr vs a b c d
  | nilptr => exact .nilptr
  | oslice a b c => exact .oslice a b c
  | map e => exact .map e
  | yield e => exact .yield e
  | nilmap => exact .nilmap
  | func a b c => exact .func a b c
  | nilfunc => exact .nilfunc
  | iface a b => exact .iface a b
  | niliface => exact .niliface
  | fresh => exact .fresh
  | agg a b c => exact .agg a b c
  | tuple a b => exact .tuple a b

theorem PVal.isCap_nz0 (p : PVal) : p.nz0.isCap = p.isCap := by cases p <;> rfl
theorem PVal.isCell_nz0 (p : PVal) : p.nz0.isCell = p.isCell := by cases p <;> rfl

theorem VR.nz1 {g : Gh} {p : PVal} {v : Value} (h : VR g p v) : VR g p.nz1 v := by
  by_cases ha : ∃ cs, p = .agg cs
  · obtain ⟨cs, rfl⟩ := ha
    cases h with
    | agg hl hc h =>
      refine .agg (by simpa using hl) (fun c hm => ?_) (fun i c e => ?_)
      · obtain ⟨c', hm', rfl⟩ := List.mem_map.1 hm
        rw [PVal.isCell_nz0]; exact hc c' hm'
      · rw [List.getElem?_map] at e
        cases hx : cs[i]? with
        | none => rw [hx] at e; cases e
        | some c' => rw [hx] at e; cases e; exact (h i c' hx).nz0
  · have : p.nz1 = p.nz0 := by cases p <;> first | rfl | exact (ha ⟨_, rfl⟩).elim
    rw [this]; exact h.nz0

theorem VR.nz {g : Gh} {p : PVal} {v : Value} (h : VR g p v) : VR g p.nz v := by
  by_cases ha : ∃ cs, p = .tuple cs
  · obtain ⟨cs, rfl⟩ := ha
    cases h with
    | tuple hl h =>
      refine .tuple (by simpa using hl) (fun i c e => ?_)
      rw [List.getElem?_map] at e
      cases hx : cs[i]? with
      | none => rw [hx] at e; cases e
      | some c' => rw [hx] at e; cases e; exact (h i c' hx).nz1
  · have : p.nz = p.nz1 := by cases p <;> first | rfl | exact (ha ⟨_, rfl⟩).elim
    rw [this]; exact h.nz1

/-- The value of one cell is the value of one cell. -/
theorem VR.cell {g : Gh} {p : PVal} {v : Value} (h : VR g p v) (hc : p.isCell = true) : (∀ cs, v ≠ .agg cs) ∧ (∀ cs, v ≠ .tuple cs) := by
  cases h <;> first | (exfalso; simp [PVal.isCell] at hc; done) | exact ⟨fun _ => by simp, fun _ => by simp⟩

end Go.Ev

/- The ghost's hold on the model's memory, and how it stands behind each change. -/
namespace Go.Ev

/-- The block that a slice may go on writing into. -/
def claim0 : PVal → Value → Option Nat
  | .slice _ .own, .slice (some a) len cap => if len = cap then none else some a.block
  | _, _ => none
def clV0 (p : PVal) (v : Value) (b : Nat) : Nat := if claim0 p v = some b then 1 else 0
def clCells : List PVal → List Value → Nat → Nat
  | c :: cs, v :: vs, b => clV0 c v b + clCells cs vs b
  | _, _, _ => 0
def clV (p : PVal) (v : Value) (b : Nat) : Nat :=
  match p, v with
  | .agg cs, .agg vs => clCells cs vs.toList b
  | p, v => clV0 p v b

def OwnOk0 (g : Gh) (p : PVal) (v : Value) : Prop :=
  match p, v with
  | .slice xs .own, .slice a len cap => len = cap ∨ ∃ b off row sz, a = some ⟨b, off, none⟩ ∧ g.lg b = some row ∧ row.free = true ∧ xs ≠ [] ∧
      (∀ x, x ∈ xs → x.length = sz) ∧ row.cells.length = off + xs.length * sz ∧ off + cap * sz ≤ row.size
  | _, _ => True
def OwnOk (g : Gh) (p : PVal) (v : Value) : Prop :=
  match p, v with
  | .agg cs, .agg vs => ∀ (i : Nat) c, cs[i]? = some c → OwnOk0 g c (vs.getD i undef)
  | p, v => OwnOk0 g p v

def heapCells (w : World) (b : Nat) : List Value :=
  match w.heap[b]? with
  | some (.cells c _ _) => c.toList
  | _ => []
def clObj (w : World) (b : Nat) (o : MObj) (k : Nat) : Nat :=
  match o with
  | .cells cs => clCells cs (heapCells w b) k
  | _ => 0
def clMs (φ : List Nat) (w : World) : List (Nat × MObj) → Nat → Nat
  | [], _ => 0
  | (id, o) :: es, k => clObj w (φ.getD id 0) o k + clMs φ w es k
def clM (g : Gh) (w : World) (m : Mem) (k : Nat) : Nat := clMs g.φ w m.objs k
def clE (tmps : Array Value) : Env → Nat → Nat
  | [], _ => 0
  | (t, p) :: e, k => clV p (tmps.getD t undef) k + clE tmps e k

/-- What is told of a loop's state. -/
def LoopSt (st : Nat) (pend : Option (Option Nat)) (rec : Loop) : Prop :=
  (st = 0 → rec.state = .ready ∧ rec.pending = none) ∧ (st = 2 → rec.state = .done ∧ rec.pending = (match pend with | some none => some .ret | some (some i) => some (.exit i) | none => rec.pending))

def ObjR (g : Gh) (w : World) (b : Nat) (o : MObj) : Prop :=
  match o with
  | .cells cs => ∃ (c : Array Value) (el : TypeId), w.heap[b]? = some (.cells c el (0, 0)) ∧ cs.length ≤ c.size ∧
      ∀ (i : Nat) p, cs[i]? = some p → p.isCell = true ∧ ∃ v, c[i]? = some v ∧ VR g p v ∧ OwnOk0 g p v
  | .map es => ∃ (ents : Array MapEntry) (clock : Nat), w.heap[b]? = some (.map ents clock) ∧ ents.size = es.length ∧
      ∀ (i : Nat) k v, es[i]? = some (k, v) → ∃ e, ents[i]? = some e ∧ VR g k e.key ∧ VR g v e.val
  | .loop env ps asg body st pend => ∃ rec : Loop, w.heap[b]? = some (.loop rec) ∧ rec.params.toList = ps ∧ (∀ t, t ∈ ps → t < rec.tmps.size) ∧ g.R rec.assign asg rec.tmps.size ∧ g.R rec.body body rec.tmps.size ∧ (env.map (·.1)).Nodup ∧
      (∀ t p, (t, p) ∈ env → p.isFresh = false ∧ p.nz = p ∧ ∃ v, rec.tmps[t]? = some v ∧ VR g p v) ∧ LoopSt st pend rec

structure WI (g : Gh) (w : World) (m : Mem) : Prop where
  lg : ∀ b row, g.lg b = some row → ∃ (c : Array Value) (fz : Nat × Nat), w.heap[b]? = some (.cells c row.elem fz) ∧ c.size = row.size ∧ row.cells <+: c.toList ∧ (row.free = true → fz = (0, 0))
  len : g.φ.length = m.next
  sorted : m.objs.Pairwise (fun a b => b.1 < a.1)
  bound : ∀ e, e ∈ m.objs → e.1 < m.next
  obj : ∀ id o, (id, o) ∈ m.objs → ∃ b, g.φ[id]? = some b ∧ g.lg b = none ∧ ObjR g w b o
  inj : ∀ i o j o' (b : Nat), (i, o) ∈ m.objs → (j, o') ∈ m.objs → g.φ[i]? = some b → g.φ[j]? = some b → i = j
  scope : ∀ id o, (id, o) ∈ m.objs → id ∈ m.ups ∨ o.under (id + 1) = true
  phi : ∀ (id b : Nat), g.φ[id]? = some b → b < w.heap.size
  bsz : ∀ (id b : Nat), g.φ[id]? = some b → ∀ c el fz, w.heap[b]? = some (.cells c el fz) → c.size = g.bs b

theorem find_mem {l : List (Nat × MObj)} {id : Nat} {o : MObj} (h : Mem.find l id = some o) : (id, o) ∈ l := by
  induction l with
  | nil => simp [Mem.find] at h
  | cons e es ih =>
    obtain ⟨s, v⟩ := e
    simp only [Mem.find] at h
    cases hb : s.beq id with
    | true => rw [hb] at h; simp at h; obtain rfl : s = id := Nat.eq_of_beq_eq_true hb; subst h; exact List.mem_cons_self
    | false => rw [hb] at h; simp at h; exact List.mem_cons_of_mem _ (ih h)

theorem mem_find {l : List (Nat × MObj)} (hs : l.Pairwise (fun a b => b.1 < a.1)) {id : Nat} {o : MObj} (h : (id, o) ∈ l) : Mem.find l id = some o := by
  induction l with
  | nil => simp at h
  | cons e es ih =>
    obtain ⟨s, v⟩ := e
    rw [List.pairwise_cons] at hs
    simp only [Mem.find]
    rcases List.mem_cons.1 h with h | h
    · cases h; simp
    · have hlt := hs.1 _ h
      have hb : s.beq id = false := by
        cases hx : s.beq id with
        | false => rfl
        | true => have := Nat.eq_of_beq_eq_true hx; simp at hlt; omega
      rw [hb]; simp only [cond_false]; exact ih hs.2 h

theorem WI.get {g : Gh} {w : World} {m : Mem} (h : WI g w m) {id : Nat} {o : MObj} (e : m.get id = some o) : ∃ b, g.φ[id]? = some b ∧ g.lg b = none ∧ ObjR g w b o :=
  h.obj id o (find_mem e)

theorem WI.lg_lt {g : Gh} {w : World} {m : Mem} (h : WI g w m) {b : Nat} {row : Row} (e : g.lg b = some row) : b < w.heap.size := by
  obtain ⟨c, fz, hc, _⟩ := h.lg b row e
  exact (Array.getElem?_eq_some_iff.1 hc).1

theorem ObjR.lt {g : Gh} {w : World} {b : Nat} {o : MObj} (h : ObjR g w b o) : b < w.heap.size := by
  cases o with
  | cells cs => obtain ⟨c, el, hc, _⟩ := h; exact (Array.getElem?_eq_some_iff.1 hc).1
  | map es => obtain ⟨c, el, hc, _⟩ := h; exact (Array.getElem?_eq_some_iff.1 hc).1
  | loop => obtain ⟨c, hc, _⟩ := h; exact (Array.getElem?_eq_some_iff.1 hc).1

/-- An object is as it was where its block is, the ghost having grown so that no own slice's row has. -/
theorem ObjR.mono {g g' : Gh} {w w' : World} {b : Nat} {o : MObj} (h : ObjR g w b o) (hg : g.Le g') (hb : w'.heap[b]? = w.heap[b]?)
    (ho : ∀ p v, OwnOk0 g p v → (∀ k, clV0 p v k ≤ clObj w b o k) → OwnOk0 g' p v) : ObjR g' w' b o := by
  cases o with
  | cells cs =>
    obtain ⟨c, el, hc, hl, hv⟩ := h
    refine ⟨c, el, hb.trans hc, hl, fun i p e => ?_⟩
    obtain ⟨hcell, v, hcv, hvr, hok⟩ := hv i p e
    refine ⟨hcell, v, hcv, hvr.mono hg, ho p v hok fun k => ?_⟩
    simp only [clObj, heapCells, hc]
    have : ∀ (cs : List PVal) (vs : List Value) (i : Nat) p v, cs[i]? = some p → vs[i]? = some v → clV0 p v k ≤ clCells cs vs k := by
      intro cs
      induction cs with
      | nil => intro vs i p v h; simp at h
      | cons c cs ih =>
        intro vs i p v h h'
        cases vs with
        | nil => simp at h'
        | cons x vs =>
          cases i with
          | zero => simp at h h'; subst h; subst h'; simp [clCells]
          | succ i => simp at h h'; have := ih vs i p v h h'; simp [clCells]; omega
    exact this cs c.toList i p v e (by simpa using hcv)
  | map es =>
    obtain ⟨ents, clock, hc, hl, hv⟩ := h
    exact ⟨ents, clock, hb.trans hc, hl, fun i k v e => let ⟨x, a, b, c⟩ := hv i k v e; ⟨x, a, b.mono hg, c.mono hg⟩⟩
  | loop env ps asg body st pend =>
    obtain ⟨rec, hc, h1, h0, h2, h3, h4, h5, h6⟩ := h
    exact ⟨rec, hb.trans hc, h1, h0, by rw [hg.R]; exact h2, by rw [hg.R]; exact h3, h4, fun t p e => let ⟨a, b, v, c, d⟩ := h5 t p e; ⟨a, b, v, c, d.mono hg⟩, h6⟩

theorem OwnOk0.of_claim {g g' : Gh} {p : PVal} {v : Value} (h : OwnOk0 g p v) (hs : ∀ b, claim0 p v = some b → g'.lg b = g.lg b) : OwnOk0 g' p v := by
  unfold OwnOk0 at *
  split at h
  · rename_i xs a len cap
    rcases h with h | ⟨b, off, row, sz, rfl, hl, rest⟩
    · exact .inl h
    · by_cases hlc : len = cap
      · exact .inl hlc
      · refine .inr ⟨b, off, row, sz, rfl, ?_, rest⟩
        rw [hs b (by simp [claim0, hlc]), hl]
  · trivial

theorem clV0_le_one (p : PVal) (v : Value) (b : Nat) : clV0 p v b ≤ 1 := by unfold clV0; split <;> omega
theorem clV0_eq {p : PVal} {v : Value} {b : Nat} (h : claim0 p v = some b) : clV0 p v b = 1 := by simp [clV0, h]

theorem claim0_nz0 (p : PVal) (v : Value) : claim0 p.nz0 v = none := by
  cases p with
  | slice xs c => cases c <;> simp [PVal.nz0, Cap.nz, claim0]
  | _ => simp [PVal.nz0, claim0]
theorem clV0_nz0 (p : PVal) (v : Value) (b : Nat) : clV0 p.nz0 v b = 0 := by simp [clV0, claim0_nz0]
theorem OwnOk0_nz0 (g : Gh) (p : PVal) (v : Value) : OwnOk0 g p.nz0 v := by
  cases p with
  | slice xs c => cases c <;> simp [PVal.nz0, Cap.nz, OwnOk0]
  | _ => simp [PVal.nz0, OwnOk0]

theorem clCells_nz (cs : List PVal) (vs : List Value) (b : Nat) : clCells (cs.map PVal.nz0) vs b = 0 := by
  induction cs generalizing vs with
  | nil => rfl
  | cons c cs ih => cases vs with
    | nil => rfl
    | cons v vs => simp [clCells, clV0_nz0, ih]

theorem clV_nz1 (p : PVal) (v : Value) (b : Nat) : clV p.nz1 v b = 0 := by
  cases p with
  | agg cs => cases v <;> simp [PVal.nz1, clV, clCells_nz, clV0, claim0]
  | slice xs c => cases c <;> cases v <;> simp [PVal.nz1, PVal.nz0, Cap.nz, clV, clV0, claim0]
  | _ => simp [PVal.nz1, PVal.nz0, clV, clV0, claim0]
theorem OwnOk_nz1 (g : Gh) (p : PVal) (v : Value) : OwnOk g p.nz1 v := by
  cases p with
  | agg cs =>
    cases v with
    | agg vs =>
      intro i c e
      rw [List.getElem?_map] at e
      cases hx : cs[i]? with
      | none => rw [hx] at e; cases e
      | some c' => rw [hx] at e; cases e; exact OwnOk0_nz0 _ _ _
    | _ => simp [PVal.nz1, OwnOk, OwnOk0]
  | slice xs c => cases c <;> cases v <;> simp [PVal.nz1, PVal.nz0, Cap.nz, OwnOk, OwnOk0]
  | _ => simp [PVal.nz1, PVal.nz0, OwnOk, OwnOk0]
theorem nz_cases (p : PVal) : (∃ vs, p = .tuple vs) ∨ p.nz = p.nz1 := by
  cases p <;> first | exact .inr rfl | exact .inl ⟨_, rfl⟩
theorem clV_nz (p : PVal) (v : Value) (b : Nat) : clV p.nz v b = 0 := by
  rcases nz_cases p with ⟨vs, rfl⟩ | h
  · simp [PVal.nz, clV, clV0, claim0]
  · rw [h]; exact clV_nz1 _ _ _
theorem OwnOk_nz (g : Gh) (p : PVal) (v : Value) : OwnOk g p.nz v := by
  rcases nz_cases p with ⟨vs, rfl⟩ | h
  · simp [PVal.nz, OwnOk, OwnOk0]
  · rw [h]; exact OwnOk_nz1 _ _ _

/-- Claims lie in rows that are told. -/
theorem claim0_lg {g : Gh} {p : PVal} {v : Value} {b : Nat} (h : OwnOk0 g p v) (e : claim0 p v = some b) : ∃ row, g.lg b = some row := by
  unfold claim0 at e
  split at e
  · rename_i xs a len cap
    split at e
    · cases e
    · rename_i hne
      simp only [OwnOk0] at h
      rcases h with h | ⟨b', off, row, sz, ha, hl, _⟩
      · exact (hne h).elim
      · cases ha; cases e; exact ⟨row, hl⟩
  · cases e

end Go.Ev

/- One step of the evaluator beside one of the model's. -/
namespace Go.Ev

/-- What is frozen stays so, and nothing else is. -/
def SameFz (w w' : World) : Prop := ∀ b c e f, w'.heap[b]? = some (Obj.cells c e f) → (∃ c0, w.heap[b]? = some (Obj.cells c0 e f)) ∨ (w.heap.size ≤ b ∧ f = (0, 0))

theorem SameFz.refl (w : World) : SameFz w w := fun _ c _ _ h => .inl ⟨c, h⟩
theorem SameFz.of_eq {w w' : World} (h : w'.heap = w.heap) : SameFz w w' := fun _ c _ _ h' => .inl ⟨c, by rw [h] at h'; exact h'⟩
theorem SameFz.trans {w w' w'' : World} (h : SameFz w w') (h' : SameFz w' w'') (hs : w.heap.size ≤ w'.heap.size) : SameFz w w'' := fun b c e f hc => by
  rcases h' b c e f hc with ⟨c0, h0⟩ | ⟨h1, h2⟩
  · exact h b c0 e f h0
  · exact .inr ⟨by omega, h2⟩
theorem SameFz.push {w w' : World} {c : Array Value} {el : TypeId} (h : w'.heap = w.heap.push (.cells c el)) : SameFz w w' := fun b c' e f hc => by
  rw [h] at hc
  by_cases hb : b < w.heap.size
  · rw [Array.getElem?_push_lt hb] at hc
    exact .inl ⟨c', by rw [Array.getElem?_eq_getElem hb]; exact hc⟩
  · have hlt := (Array.getElem?_eq_some_iff.1 hc).1
    simp at hlt
    obtain rfl : b = w.heap.size := by omega
    simp at hc
    exact .inr ⟨Nat.le_refl _, hc.2.2.symm⟩
theorem SameFz.setRow {w : World} {b : Nat} {cur cs : Array Value} {el : TypeId} {fz : Nat × Nat} (h : w.heap[b]? = some (.cells cur el fz)) : SameFz w (w.setRow b cs) := fun k c' e f hc => by
  by_cases hk : k = b
  · subst hk
    rw [setRow_heap w k cur cs el fz h] at hc
    cases hc
    exact .inl ⟨cur, h⟩
  · rw [setRow_other w b k cs hk] at hc
    exact .inl ⟨c', hc⟩

def NewPhi (g : Gh) (w : World) (ext : List Nat) : Prop := ∀ b, b ∈ ext → w.heap.size ≤ b ∨ ∃ id : Nat, g.φ[id]? = some b
theorem NewPhi.not {g : Gh} {w : World} {ext : List Nat} (h : NewPhi g w ext) {b id : Nat} (hb : b < w.heap.size) (hno : ∀ id : Nat, g.φ[id]? ≠ some b) : (g.φ ++ ext)[id]? ≠ some b := fun e => by
  by_cases hid : id < g.φ.length
  · rw [List.getElem?_append_left hid] at e; exact hno id e
  · rw [List.getElem?_append_right (by omega)] at e
    rcases h b (List.mem_of_getElem? e) with h1 | ⟨i, h1⟩
    · omega
    · exact hno i h1
theorem NewPhi.append {g g' : Gh} {w w' : World} {e1 e2 : List Nat} (h : NewPhi g w e1) (h' : NewPhi g' w' e2) (hg : g'.φ = g.φ ++ e1) (hs : w.heap.size ≤ w'.heap.size) : NewPhi g w (e1 ++ e2) := fun b hb => by
  rcases List.mem_append.1 hb with hb | hb
  · exact h b hb
  · rcases h' b hb with h1 | ⟨id, h1⟩
    · left; omega
    · rw [hg] at h1
      by_cases hid : id < g.φ.length
      · rw [List.getElem?_append_left hid] at h1; exact .inr ⟨id, h1⟩
      · rw [List.getElem?_append_right (by omega)] at h1
        exact h b (List.mem_of_getElem? h1)

structure Step (ca : Nat → Nat) (g : Gh) (w : World) (m : Mem) (r : PVal) (m' : Mem) (g' : Gh) (w' : World) (v : Value) : Prop where
  wi : WI g' w' m'
  vr : VR g' r v
  ok : OwnOk g' r v
  size : w.heap.size ≤ w'.heap.size
  φ : ∃ ext, g'.φ = g.φ ++ ext ∧ NewPhi g w ext
  lgle : ∀ b row, g.lg b = some row → ∃ row', g'.lg b = some row' ∧ row.cells <+: row'.cells
  bs : ∀ (id b : Nat), g.φ[id]? = some b → g'.bs b = g.bs b
  claims : ∀ b, b < w.heap.size → clV r v b + clM g' w' m' b ≤ ca b + clM g w m b
  claims' : ∀ b, w.heap.size ≤ b → clV r v b + clM g' w' m' b ≤ 1
  keepLg : ∀ b row, g.lg b = some row → ca b + clM g w m b = 0 → g'.lg b = some row
  keepBlk : ∀ b, b < w.heap.size → ca b + clM g w m b = 0 → (∀ id : Nat, g.φ[id]? ≠ some b) → w'.heap[b]? = w.heap[b]?
  fresh : SameFz w w'
  keepNone : ∀ b, b < w.heap.size → g.lg b = none → (∀ id : Nat, g.φ[id]? ≠ some b) → g'.lg b = none
  os : w'.os = w.os ∧ w'.output = w.output ∧ w'.tape = w.tape
  R : g'.R = g.R

theorem Step.le {ca : Nat → Nat} {g : Gh} {w : World} {m : Mem} {r : PVal} {m' : Mem} {g' : Gh} {w' : World} {v : Value} (h : Step ca g w m r m' g' w' v) : g.Le g' := by
  obtain ⟨ext, he, _⟩ := h.φ
  exact ⟨fun id b e => by rw [he]; exact pre_get (List.prefix_append _ _) e, h.lgle, h.bs, h.R⟩

theorem clV_lt {g : Gh} {w : World} {m : Mem} {p : PVal} {v : Value} (hw : WI g w m) (h : OwnOk g p v) {b : Nat} (hb : w.heap.size ≤ b) : clV p v b = 0 := by
  have h0 : ∀ p v, OwnOk0 g p v → clV0 p v b = 0 := by
    intro p v h
    unfold clV0
    split
    · rename_i e
      obtain ⟨row, hr⟩ := claim0_lg h e
      have := hw.lg_lt hr
      omega
    · rfl
  unfold OwnOk at h
  unfold clV
  split at h
  · rename_i cs vs
    have key : ∀ (cs : List PVal) (vs : List Value), (∀ (i : Nat) c, cs[i]? = some c → OwnOk0 g c (vs.getD i undef)) → clCells cs vs b = 0 := by
      intro cs
      induction cs with
      | nil => intro vs _; rfl
      | cons c cs ih =>
        intro vs h
        cases vs with
        | nil => rfl
        | cons x vs =>
          simp only [clCells]
          have a := h0 _ _ (by simpa using h 0 c rfl)
          have b' := ih vs fun i c' e => by simpa using h (i + 1) c' (by simpa using e)
          omega
    exact key cs vs.toList fun i c e => by simpa using h i c e
  · exact h0 _ _ h

theorem clCells_lt {g : Gh} {w : World} {m : Mem} (hw : WI g w m) {b : Nat} (hb : w.heap.size ≤ b) : ∀ (cs : List PVal) (vs : List Value), (∀ (i : Nat) p, cs[i]? = some p → ∃ v, vs[i]? = some v ∧ OwnOk0 g p v) → clCells cs vs b = 0 := by
  intro cs
  induction cs with
  | nil => intro vs _; rfl
  | cons c cs ih =>
    intro vs h
    cases vs with
    | nil => rfl
    | cons x vs =>
      simp only [clCells]
      obtain ⟨v, hv, hok⟩ := h 0 c rfl
      obtain rfl : x = v := by simpa using hv
      have a : clV0 c x b = 0 := by
        unfold clV0
        split
        · rename_i e
          obtain ⟨row, hr⟩ := claim0_lg hok e
          have := hw.lg_lt hr
          omega
        · rfl
      have b' := ih vs fun i c' e => by
        obtain ⟨v', hv', ho'⟩ := h (i + 1) c' (by simpa using e)
        exact ⟨v', by simpa using hv', ho'⟩
      omega

theorem phi_getD {φ : List Nat} {id b : Nat} (h : φ[id]? = some b) : φ.getD id 0 = b := by
  simp [List.getD, h]

theorem clM_lt {g : Gh} {w : World} {m : Mem} (hw : WI g w m) {b : Nat} (hb : w.heap.size ≤ b) : clM g w m b = 0 := by
  unfold clM
  have : ∀ l : List (Nat × MObj), (∀ e, e ∈ l → e ∈ m.objs) → clMs g.φ w l b = 0 := by
    intro l
    induction l with
    | nil => intro _; rfl
    | cons e es ih =>
      intro hl
      obtain ⟨id, o⟩ := e
      simp only [clMs]
      have h2 := ih fun e he => hl e (List.mem_cons_of_mem _ he)
      obtain ⟨k, hk, _, ho⟩ := hw.obj id o (hl _ List.mem_cons_self)
      rw [phi_getD hk]
      have h1 : clObj w k o b = 0 := by
        cases o with
        | cells cs =>
          obtain ⟨c, el, hc, hlen, hv⟩ := ho
          simp only [clObj, heapCells, hc]
          exact clCells_lt hw hb cs c.toList fun i p e => by
            obtain ⟨_, v, hcv, _, hok⟩ := hv i p e
            exact ⟨v, by simpa using hcv, hok⟩
        | _ => rfl
      omega
  exact this m.objs fun _ h => h

/-- What changes nothing. -/
theorem Step.pure {ca : Nat → Nat} {g : Gh} {w : World} {m : Mem} {r : PVal} {v : Value} (hw : WI g w m) (hv : VR g r v) (ho : OwnOk g r v)
    (hc : ∀ b, clV r v b ≤ ca b) : Step ca g w m r m g w v where
  wi := hw
  vr := hv
  ok := ho
  size := Nat.le_refl _
  φ := ⟨[], by simp, fun b h => by simp at h⟩
  lgle := fun b row h => ⟨row, h, List.prefix_refl _⟩
  bs := fun _ _ _ => rfl
  claims := fun b _ => by have := hc b; omega
  claims' := fun b hb => by rw [clV_lt hw ho hb, clM_lt hw hb]; omega
  keepLg := fun b row h _ => h
  keepBlk := fun b _ _ _ => rfl
  fresh := .refl _
  R := (by first | rfl | exact h.R | exact h'.R.trans h.R)
  keepNone := fun _ _ h _ => h
  os := ⟨rfl, rfl, rfl⟩

/-- The memory's claims hang on what its objects' blocks hold. -/
theorem clMs_congr {φ φ' : List Nat} {w w' : World} {l : List (Nat × MObj)} (h : ∀ id o, (id, o) ∈ l → φ'.getD id 0 = φ.getD id 0 ∧ heapCells w' (φ.getD id 0) = heapCells w (φ.getD id 0)) (k : Nat) :
    clMs φ' w' l k = clMs φ w l k := by
  induction l with
  | nil => rfl
  | cons e es ih =>
    obtain ⟨id, o⟩ := e
    obtain ⟨h1, h2⟩ := h id o List.mem_cons_self
    simp only [clMs, h1]
    rw [ih fun id o hm => h id o (List.mem_cons_of_mem _ hm)]
    congr 1
    cases o <;> simp only [clObj, h2]

theorem heapCells_congr {w w' : World} {b : Nat} (h : w'.heap[b]? = w.heap[b]?) : heapCells w' b = heapCells w b := by
  unfold heapCells; rw [h]

theorem WI.app_le {g : Gh} {w : World} {m : Mem} (hw : WI g w m) {n : Nat} : g.Le (g.app w.heap.size n) := Gh.app_le fun id e => by have := hw.phi id _ e; omega

/-- A new object. -/
theorem WI.push {g : Gh} {w : World} {m : Mem} (hw : WI g w m) {o : MObj} {ob : Obj} (ho : ObjR g (w.alloc ob) w.heap.size o)
    (hu : o.under (m.next + 1) = true) : WI (g.app w.heap.size (obSize ob)) (w.alloc ob) (m.push o) := by
  have hle : g.Le (g.app w.heap.size (obSize ob)) := hw.app_le
  have hold : ∀ b, b < w.heap.size → (w.alloc ob).heap[b]? = w.heap[b]? := fun b hb => by
    simp only [World.alloc]; rw [Array.getElem?_push_lt hb]; exact (Array.getElem?_eq_getElem hb).symm
  have hnone : g.lg w.heap.size = none := by
    cases h : g.lg w.heap.size with
    | none => rfl
    | some row => have := hw.lg_lt h; omega
  have hnew : (g.φ ++ [w.heap.size])[m.next]? = some w.heap.size := by
    rw [← hw.len, List.getElem?_append_right (Nat.le_refl _)]; simp
  refine ⟨?_, ?_, ?_, ?_, ?_, ?_, ?_, ?_, ?_⟩
  rotate_left 8
  · intro id b e c el fz hc
    show c.size = if b = w.heap.size then obSize ob else g.bs b
    by_cases hb : b = w.heap.size
    · subst hb
      rw [if_pos rfl]
      have hc' : (w.heap.push ob)[w.heap.size]? = some (.cells c el fz) := hc
      simp at hc'
      subst hc'; rfl
    · rw [if_neg hb]
      have e2 : (g.φ ++ [w.heap.size])[id]? = some b := e
      by_cases hid : id < g.φ.length
      · have e' : g.φ[id]? = some b := by rw [← List.getElem?_append_left hid]; exact e2
        exact hw.bsz id b e' c el fz (by rw [← hold b (hw.phi id b e')]; exact hc)
      · have e' : [w.heap.size][id - g.φ.length]? = some b := by rw [← List.getElem?_append_right (by omega)]; exact e2
        have := List.mem_of_getElem? e'
        simp at this; omega
  rotate_left 7
  · intro id b e
    have hsz : (w.alloc ob).heap.size = w.heap.size + 1 := by unfold World.alloc; simp
    rw [hsz]
    by_cases hid : id < g.φ.length
    · have e' : g.φ[id]? = some b := by rw [← List.getElem?_append_left hid]; exact e
      have := hw.phi id b e'; omega
    · have e' : [w.heap.size][id - g.φ.length]? = some b := by rw [← List.getElem?_append_right (by omega)]; exact e
      have := List.mem_of_getElem? e'
      simp at this; omega
  · intro b row e
    obtain ⟨c, fz, hc, rest⟩ := hw.lg b row e
    exact ⟨c, fz, (hold b (hw.lg_lt e)).trans hc, rest⟩
  · show (g.φ ++ [w.heap.size]).length = m.next + 1
    simp [hw.len]
  · simp only [Mem.push, List.pairwise_cons]
    exact ⟨fun e he => hw.bound e he, hw.sorted⟩
  · intro e he
    rcases List.mem_cons.1 he with h | h
    · subst h; simp [Mem.push]
    · have := hw.bound e h; simp [Mem.push]; omega
  · intro id o' he
    rcases List.mem_cons.1 he with h | h
    · cases h
      refine ⟨w.heap.size, hnew, hnone, ?_⟩
      exact ho.mono hle rfl fun p v h _ => h.of_claim fun b hb => rfl
    · obtain ⟨b, hb, hn, hr⟩ := hw.obj id o' h
      exact ⟨b, hle.φ _ _ hb, hn, hr.mono hle (hold b hr.lt) fun p v h _ => h.of_claim fun b hb => rfl⟩
  · intro i o1 j o2 b hi hj ei ej
    have old : ∀ i o, (i, o) ∈ m.objs → (g.φ ++ [w.heap.size])[i]? = some b → g.φ[i]? = some b ∧ b < w.heap.size := by
      intro i o hm e
      obtain ⟨b', hb', _, hr⟩ := hw.obj i o hm
      have : b' = b := by have h2 : (g.φ ++ [w.heap.size])[i]? = some b' := hle.φ _ _ hb'; rw [h2] at e; exact Option.some.inj e
      subst this
      exact ⟨hb', hr.lt⟩
    rcases List.mem_cons.1 hi with h | h <;> rcases List.mem_cons.1 hj with h' | h'
    · cases h; cases h'; rfl
    · cases h
      have := hnew.symm.trans ei; cases this
      have := (old j o2 h' ej).2; omega
    · cases h'
      have := hnew.symm.trans ej; cases this
      have := (old i o1 h ei).2; omega
    · exact hw.inj i o1 j o2 b h h' (old i o1 h ei).1 (old j o2 h' ej).1
  · intro id o' he
    rcases List.mem_cons.1 he with h | h
    · cases h; exact .inr hu
    · exact hw.scope id o' h

theorem heapCells_alloc (w : World) (c : Array Value) (e : TypeId) (fz : Nat × Nat) : heapCells (w.alloc (.cells c e fz)) w.heap.size = c.toList := by
  unfold heapCells World.alloc; simp

theorem alloc_old (w : World) (ob : Obj) {b : Nat} (hb : b < w.heap.size) : (w.alloc ob).heap[b]? = w.heap[b]? := by
  simp only [World.alloc]; rw [Array.getElem?_push_lt hb]; exact (Array.getElem?_eq_getElem hb).symm

theorem WI.phi_lt {g : Gh} {w : World} {m : Mem} (hw : WI g w m) {id b : Nat} (e : g.φ[id]? = some b) : id < m.next := by
  rw [← hw.len]; exact (List.getElem?_eq_some_iff.1 e).1

theorem clM_push {g : Gh} {w : World} {m : Mem} (hw : WI g w m) (o : MObj) (ob : Obj) (k : Nat) {n : Nat} :
    clM (g.app w.heap.size n) (w.alloc ob) (m.push o) k = clObj (w.alloc ob) w.heap.size o k + clM g w m k := by
  unfold clM
  simp only [Mem.push, clMs]
  have hnew : (g.φ ++ [w.heap.size])[m.next]? = some w.heap.size := by
    rw [← hw.len, List.getElem?_append_right (Nat.le_refl _)]; simp
  have happ : (g.app w.heap.size n).φ = g.φ ++ [w.heap.size] := rfl
  rw [happ, phi_getD hnew]
  congr 1
  refine clMs_congr (fun id o' he => ?_) k
  obtain ⟨b, hb, _, hr⟩ := hw.obj id o' he
  have h2 : (g.φ ++ [w.heap.size])[id]? = some b := pre_get (List.prefix_append _ _) hb
  rw [phi_getD hb, phi_getD h2]
  exact ⟨rfl, heapCells_congr (alloc_old w ob hr.lt)⟩

/-- A new object, and its number. -/
theorem Step.push {ca : Nat → Nat} {g : Gh} {w : World} {m : Mem} {o : MObj} {c : Array Value} {el : TypeId} {r : PVal} {v : Value} (hw : WI g w m)
    (ho : ObjR g (w.alloc (.cells c el)) w.heap.size o) (hu : o.under (m.next + 1) = true) (hc : ∀ b, clObj (w.alloc (.cells c el)) w.heap.size o b ≤ ca b)
    (hv : VR (g.app w.heap.size c.size) r v) (h1 : ∀ g, OwnOk g r v) (h0 : ∀ b, clV r v b = 0) :
    Step ca g w m r (m.push o) (g.app w.heap.size c.size) (w.alloc (.cells c el)) v where
  wi := hw.push ho hu
  vr := hv
  ok := h1 _
  size := by unfold World.alloc; simp
  φ := ⟨[w.heap.size], rfl, fun b h => by simp at h; exact .inl (by omega)⟩
  lgle := fun b row h => ⟨row, h, List.prefix_refl _⟩
  bs := hw.app_le.bs
  claims := fun b _ => by rw [clM_push hw, h0 b]; have := hc b; omega
  claims' := fun b hb => by
    rw [clM_push hw, h0 b, clM_lt hw hb]
    have : clObj (w.alloc (.cells c el)) w.heap.size o b = 0 := by
      cases o with
      | cells cs =>
        obtain ⟨c', el', hc', hlen, hv⟩ := ho
        simp only [clObj, heapCells, hc']
        exact clCells_lt hw hb cs c'.toList fun i p e => by
          obtain ⟨_, v, hcv, _, hok⟩ := hv i p e
          exact ⟨v, by simpa using hcv, hok⟩
      | _ => rfl
    omega
  keepLg := fun b row h _ => h
  keepBlk := fun b hb _ _ => alloc_old w _ hb
  fresh := .push rfl
  R := (by first | rfl | exact h.R | exact h'.R.trans h.R)
  keepNone := fun _ _ h _ => h
  os := ⟨rfl, rfl, rfl⟩

theorem WI.bsz_row {g : Gh} {w : World} {m : Mem} (hw : WI g w m) {b : Nat} {cur cs : Array Value} {el : TypeId} {fz : Nat × Nat} (hb : w.heap[b]? = some (.cells cur el fz)) (hs : cs.size = cur.size) :
    ∀ (id k : Nat), g.φ[id]? = some k → ∀ c e f, (w.setRow b cs).heap[k]? = some (.cells c e f) → c.size = g.bs k := fun id k e c el' f hc => by
  by_cases hk : k = b
  · subst hk
    rw [setRow_heap w k cur cs el fz hb] at hc
    cases hc
    rw [hs]; exact hw.bsz id k e cur el fz hb
  · rw [setRow_other w b k cs hk] at hc
    exact hw.bsz id k e c el' f hc

end Go.Ev

/- Reading and writing an object's cells. -/
namespace Go.Ev

section
variable {α : Type}
theorem putAt_nil (cs : List α) (n : Nat) : putAt cs n [] = cs := by
  induction cs generalizing n with
  | nil => cases n <;> rfl
  | cons c cs ih => cases n with
    | zero => rfl
    | succ n => simp [putAt, ih]
theorem putAt_length (cs : List α) (n : Nat) (vs : List α) : (putAt cs n vs).length = cs.length := by
  induction cs generalizing n vs with
  | nil => cases n <;> cases vs <;> rfl
  | cons c cs ih => cases n with
    | zero => cases vs with
      | nil => rfl
      | cons v vs => simp [putAt, ih]
    | succ n => simp [putAt, ih]
theorem putAt_eq (cs : List α) (n : Nat) (vs : List α) (h : n + vs.length ≤ cs.length) : putAt cs n vs = cs.take n ++ vs ++ cs.drop (n + vs.length) := by
  induction cs generalizing n vs with
  | nil =>
    have : vs = [] := by cases vs <;> simp_all
    subst this; cases n <;> simp [putAt]
  | cons c cs ih => cases n with
    | zero => cases vs with
      | nil => simp [putAt]
      | cons v vs => simp [putAt]; rw [ih 0 vs (by simpa using h)]; simp
    | succ n =>
      simp only [putAt, List.take_succ_cons, List.cons_append]
      rw [ih n vs (by simp at h; omega)]
      have : n + 1 + vs.length = (n + vs.length) + 1 := by omega
      rw [this, List.drop_succ_cons]
theorem putAt_get (cs : List α) (n : Nat) (vs : List α) (h : n + vs.length ≤ cs.length) (i : Nat) :
    (putAt cs n vs)[i]? = if n ≤ i ∧ i < n + vs.length then vs[i - n]? else cs[i]? := by
  induction cs generalizing n vs i with
  | nil =>
    have hv : vs = [] := by cases vs <;> simp_all
    subst hv
    rw [putAt_nil]
    split
    · rename_i hh; simp at hh; omega
    · rfl
  | cons c cs ih => cases n with
    | zero => cases vs with
      | nil => simp [putAt]
      | cons v vs =>
        simp only [putAt]
        cases i with
        | zero => simp
        | succ i =>
          simp only [List.getElem?_cons_succ]
          rw [ih 0 vs (by simpa using h)]
          simp
    | succ n =>
      simp only [putAt]
      cases i with
      | zero => simp
      | succ i =>
        simp only [List.getElem?_cons_succ]
        rw [ih n vs (by simp at h; omega)]
        have : (n + 1 ≤ i + 1 ∧ i + 1 < n + 1 + vs.length) ↔ (n ≤ i ∧ i < n + vs.length) := by omega
        simp only [this]
        congr 1
        rw [show i + 1 - (n + 1) = i - n by omega]
end

theorem clCells_putAt (cs : List PVal) (n : Nat) (vs : List PVal) (xs ws : List Value) (b : Nat) (h : n + vs.length ≤ cs.length) (hx : cs.length ≤ xs.length)
    (hl : ws.length = vs.length) : clCells (putAt cs n vs) (putAt xs n ws) b ≤ clCells cs xs b + clCells vs ws b := by
  induction cs generalizing n vs xs ws with
  | nil =>
    have : vs = [] := by cases vs <;> simp_all
    subst this; cases n <;> simp [putAt, clCells]
  | cons c cs ih =>
    cases xs with
    | nil => simp at hx
    | cons x xs =>
      cases n with
      | zero => cases vs with
        | nil =>
          have : ws = [] := by cases ws <;> simp_all
          subst this; simp [putAt, clCells]
        | cons v vs => cases ws with
          | nil => simp at hl
          | cons u ws =>
            simp only [putAt, clCells]
            have := ih 0 vs xs ws (by simpa using h) (by simpa using hx) (by simpa using hl)
            omega
      | succ n =>
        simp only [putAt, clCells]
        have := ih n vs xs ws (by simp at h; omega) (by simpa using hx) hl
        omega

theorem add_plain (b off j : Nat) : (⟨b, off, none⟩ : Addr).add j = ⟨b, off + j, none⟩ := by
  unfold Addr.add; split <;> simp_all

theorem cell_of_heap {w : World} {b i : Nat} {c : Array Value} {el : TypeId} {fz : Nat × Nat} (h : w.heap[b]? = some (.cells c el fz)) :
    w.cell? ⟨b, i, none⟩ = c[i]? := by
  simp [World.cell?, h]

/-- What is read, and what lies there. -/
theorem read_ok {g : Gh} {w : World} {m : Mem} (hw : WI g w m) {p : PVal} {v : Value} {n : Nat} {cs : List PVal} (hr : readAt m p n = some cs) (hv : VR g p v) :
    cs.length = n ∧ ∃ b off, v = .pointer (some ⟨b, off, none⟩) ∧ ∃ xs : List Value, xs.length = n ∧ (∀ (j : Nat) x, xs[j]? = some x → w.cell? (Addr.add ⟨b, off, none⟩ j) = some x) ∧
      (∀ (j : Nat) c, cs[j]? = some c → c.isCell = true ∧ ∃ x, xs[j]? = some x ∧ VR g c x) := by
  unfold readAt at hr
  split at hr
  · rename_i id off
    split at hr
    · rename_i cs0 hget
      cases hv with
      | ptr e =>
        rename_i b
        obtain ⟨b', hb', _, ⟨c, el, hc, hlen, hcells⟩⟩ := hw.get hget
        obtain rfl : b = b' := by rw [e] at hb'; exact Option.some.inj hb'
        cases hbl : Nat.ble (off + n) cs0.length with
        | false => rw [hbl] at hr; simp at hr
        | true =>
          rw [hbl] at hr
          have hle : off + n ≤ cs0.length := by simpa using hbl
          simp only [cond_true, Option.some.injEq] at hr
          subst hr
          refine ⟨by simp; omega, b, off, rfl, (c.toList.drop off).take n, by simp; omega, fun j x hx => ?_, fun j c' hc' => ?_⟩
          · rw [add_plain, cell_of_heap hc]
            have hj : j < n := by
              have := (List.getElem?_eq_some_iff.1 hx).1; simp at this; omega
            rw [List.getElem?_take_of_lt hj, List.getElem?_drop] at hx
            simpa using hx
          · have hj : j < n := by
              have := (List.getElem?_eq_some_iff.1 hc').1; simp at this; omega
            rw [List.getElem?_take_of_lt hj, List.getElem?_drop] at hc'
            obtain ⟨hcell, x, hx, hvr, _⟩ := hcells _ _ hc'
            refine ⟨hcell, x, ?_, hvr⟩
            rw [List.getElem?_take_of_lt hj, List.getElem?_drop]
            simpa using hx
    · cases hr
  · rename_i cs0
    cases hbl : Nat.ble n cs0.length with
    | false => rw [hbl] at hr; simp at hr
    | true =>
      rw [hbl] at hr
      have hle : n ≤ cs0.length := by simpa using hbl
      simp only [cond_true, Option.some.injEq] at hr
      subst hr
      cases hv with
      | eptr vs hl hf hcs hvr =>
        rename_i b off row
        obtain ⟨c, fz, hc, hsz, hp, _⟩ := hw.lg _ _ hl
        refine ⟨by simp; omega, b, off, rfl, (List.range n).map vs, by simp, fun j x hx => ?_, fun j c' hc' => ?_⟩
        · have hj : j < n := by
            have := (List.getElem?_eq_some_iff.1 hx).1; simpa using this
          simp [List.getElem?_map, List.getElem?_range hj] at hx
          subst hx
          obtain ⟨cj, hcj⟩ : ∃ cj, cs0[j]? = some cj := ⟨cs0[j], by simp [List.getElem?_eq_getElem (show j < cs0.length by omega)]⟩
          rw [add_plain, cell_of_heap hc]
          have := pre_get hp (hcs j cj hcj)
          simpa using this
        · have hj : j < n := by
            have := (List.getElem?_eq_some_iff.1 hc').1; simp at this; omega
          rw [List.getElem?_take_of_lt hj] at hc'
          have hfl := hf _ (List.mem_of_getElem? hc')
          refine ⟨by cases c' <;> simp_all [PVal.flat, PVal.isCell], vs j, by simp [List.getElem?_map, List.getElem?_range hj], hvr j c' hc'⟩
  · cases hr

end Go.Ev

/- Writing an object's cells. -/
namespace Go.Ev

theorem clMs_congr' {φ : List Nat} {w w' : World} {l : List (Nat × MObj)} (h : ∀ id o, (id, o) ∈ l → heapCells w' (φ.getD id 0) = heapCells w (φ.getD id 0)) (k : Nat) :
    clMs φ w' l k = clMs φ w l k := clMs_congr (fun id o he => ⟨rfl, h id o he⟩) k

theorem repl_mem {l : List (Nat × MObj)} {id : Nat} {o' : MObj} {e : Nat × MObj} (h : e ∈ Mem.repl l id o') : e = (id, o') ∨ e ∈ l := by
  induction l with
  | nil => simp [Mem.repl] at h
  | cons x xs ih =>
    obtain ⟨s, v⟩ := x
    simp only [Mem.repl] at h
    cases hb : s.beq id with
    | true =>
      rw [hb] at h; simp only [cond_true] at h
      obtain rfl : s = id := Nat.eq_of_beq_eq_true hb
      rcases List.mem_cons.1 h with h | h
      · exact .inl h
      · exact .inr (List.mem_cons_of_mem _ h)
    | false =>
      rw [hb] at h; simp only [cond_false] at h
      rcases List.mem_cons.1 h with h | h
      · exact .inr (h ▸ List.mem_cons_self)
      · exact (ih h).imp (fun h => h) (List.mem_cons_of_mem _)

theorem repl_keys (l : List (Nat × MObj)) (id : Nat) (o' : MObj) : (Mem.repl l id o').map (·.1) = l.map (·.1) := by
  induction l with
  | nil => rfl
  | cons x xs ih =>
    obtain ⟨s, v⟩ := x
    simp only [Mem.repl]
    cases hb : s.beq id <;> simp [ih]

theorem sorted_keys (l : List (Nat × MObj)) : l.Pairwise (fun a b => b.1 < a.1) ↔ (l.map (·.1)).Pairwise (fun a b => b < a) := by
  rw [List.pairwise_map]

theorem repl_sorted {l : List (Nat × MObj)} (id : Nat) (o' : MObj) (h : l.Pairwise (fun a b => b.1 < a.1)) : (Mem.repl l id o').Pairwise (fun a b => b.1 < a.1) := by
  rw [sorted_keys, repl_keys, ← sorted_keys]; exact h

theorem repl_old {l : List (Nat × MObj)} {id : Nat} {o' : MObj} {i : Nat} {o : MObj} (h : (i, o) ∈ Mem.repl l id o') (hne : i ≠ id) : (i, o) ∈ l := by
  rcases repl_mem h with h | h
  · cases h; exact (hne rfl).elim
  · exact h

theorem repl_new {l : List (Nat × MObj)} (hs : l.Pairwise (fun a b => b.1 < a.1)) {id : Nat} {o' o : MObj} (h : (id, o) ∈ Mem.repl l id o') : o = o' := by
  induction l with
  | nil => simp [Mem.repl] at h
  | cons x xs ih =>
    obtain ⟨s, v⟩ := x
    rw [List.pairwise_cons] at hs
    simp only [Mem.repl] at h
    cases hb : s.beq id with
    | true =>
      rw [hb] at h; simp only [cond_true] at h
      obtain rfl : s = id := Nat.eq_of_beq_eq_true hb
      rcases List.mem_cons.1 h with h | h
      · cases h; rfl
      · have := hs.1 _ h; simp at this
    | false =>
      rw [hb] at h; simp only [cond_false] at h
      rcases List.mem_cons.1 h with h | h
      · cases h; simp at hb
      · exact ih hs.2 h

theorem clMs_repl {φ : List Nat} {w w' : World} {l : List (Nat × MObj)} (hs : l.Pairwise (fun a b => b.1 < a.1)) {id : Nat} {o o' : MObj} (hm : (id, o) ∈ l)
    (h : ∀ i o, (i, o) ∈ l → i ≠ id → heapCells w' (φ.getD i 0) = heapCells w (φ.getD i 0)) (k : Nat) :
    clMs φ w' (Mem.repl l id o') k + clObj w (φ.getD id 0) o k = clMs φ w l k + clObj w' (φ.getD id 0) o' k := by
  induction l with
  | nil => simp at hm
  | cons x xs ih =>
    obtain ⟨s, v⟩ := x
    rw [List.pairwise_cons] at hs
    simp only [Mem.repl]
    cases hb : s.beq id with
    | true =>
      obtain rfl : s = id := Nat.eq_of_beq_eq_true hb
      simp only [cond_true, clMs]
      have hne : ∀ i o, (i, o) ∈ xs → i ≠ s := fun i o hx => by have := hs.1 _ hx; simp at this; omega
      rw [clMs_congr' (w := w) (w' := w') fun i o hx => h i o (List.mem_cons_of_mem _ hx) (hne i o hx)]
      rcases List.mem_cons.1 hm with h' | h'
      · cases h'; omega
      · exact (hne s o h' rfl).elim
    | false =>
      simp only [cond_false, clMs]
      have hsid : s ≠ id := by intro e; subst e; simp at hb
      have hm' : (id, o) ∈ xs := by
        rcases List.mem_cons.1 hm with h' | h'
        · cases h'; exact (hsid rfl).elim
        · exact h'
      have := ih hs.2 hm' fun i o hx => h i o (List.mem_cons_of_mem _ hx)
      have e1 : clObj w' (φ.getD s 0) v k = clObj w (φ.getD s 0) v k := by
        have := h s v List.mem_cons_self hsid
        cases v <;> simp only [clObj, this]
      omega

theorem hasNat_mem {n : Nat} : ∀ {l : List Nat}, hasNat n l = true → n ∈ l
  | [], h => by simp [hasNat] at h
  | x :: xs, h => by
    simp only [hasNat, Bool.or_eq_true] at h
    rcases h with h | h
    · rw [Nat.eq_of_beq_eq_true h]; exact List.mem_cons_self
    · exact List.mem_cons_of_mem _ (hasNat_mem h)

theorem mark_objs (m : Mem) (id : Nat) (ok : Bool) : (m.mark id ok).objs = m.objs ∧ (m.mark id ok).next = m.next ∧ (∀ i, i ∈ m.ups → i ∈ (m.mark id ok).ups) ∧ (ok = false → id ∈ (m.mark id ok).ups) := by
  unfold Mem.mark
  cases ok with
  | true => exact ⟨rfl, rfl, fun i h => h, fun h => by cases h⟩
  | false =>
    cases h : hasNat id m.ups with
    | true => exact ⟨rfl, rfl, fun i h => h, fun _ => hasNat_mem h⟩
    | false => exact ⟨rfl, rfl, fun i h => List.mem_cons_of_mem _ h, fun _ => List.mem_cons_self⟩

/-- An object's cells are written. -/
theorem write_ok {ca : Nat → Nat} {g : Gh} {w : World} {m m' : Mem} (hw : WI g w m) {p : PVal} {v : Value} {vs : List PVal} (hwr : writeAt m p vs = some m') (hv : VR g p v)
    (ws : List Value) (hl : ws.length = vs.length) (hcell : ∀ (j : Nat) c, vs[j]? = some c → c.isCell = true ∧ ∃ x, ws[j]? = some x ∧ VR g c x ∧ OwnOk0 g c x)
    (hc : ∀ b, clCells vs ws b ≤ ca b) :
    ∃ b off cur el, v = .pointer (some ⟨b, off, none⟩) ∧ w.heap[b]? = some (.cells cur el (0, 0)) ∧ off + ws.length ≤ cur.size ∧
      Step ca g w m (.tuple []) m' g (w.setRow b (cur.toList.take off ++ ws ++ cur.toList.drop (off + ws.length)).toArray) undef := by
  unfold writeAt at hwr
  split at hwr
  · rename_i id off
    split at hwr
    · rename_i cs0 hget
      cases hv with
      | ptr e =>
        rename_i b
        obtain ⟨b', hb', hlg, ⟨c, el, hcb, hlen, hcells⟩⟩ := hw.get hget
        obtain rfl : b = b' := by rw [e] at hb'; exact Option.some.inj hb'
        cases hbl : Nat.ble (off + vs.length) cs0.length with
        | false => rw [hbl] at hwr; simp at hwr
        | true =>
          rw [hbl] at hwr
          have hle : off + vs.length ≤ cs0.length := by simpa using hbl
          simp only [cond_true, Option.some.injEq] at hwr
          obtain ⟨hob, hnx, hup, hup'⟩ := mark_objs (m.set id (.cells (putAt cs0 off vs))) id (vs.all (PVal.under1 (id + 1)))
          rw [hwr] at hob hnx hup hup'
          have hmem := find_mem hget
          have hoff : off + ws.length ≤ c.size := by omega
          have hnewl : c.toList.take off ++ ws ++ c.toList.drop (off + ws.length) = putAt c.toList off ws :=
            (putAt_eq c.toList off ws (by simpa using hoff)).symm
          refine ⟨b, off, c, el, rfl, hcb, hoff, ?_⟩
          rw [hnewl]
          have hrow : (w.setRow b (putAt c.toList off ws).toArray).heap[b]? = some (.cells (putAt c.toList off ws).toArray el (0, 0)) := setRow_heap w b c _ el _ hcb
          have hoth : ∀ k, k ≠ b → (w.setRow b (putAt c.toList off ws).toArray).heap[k]? = w.heap[k]? := fun k hk => setRow_other w b k _ hk
          have hne : ∀ i o, (i, o) ∈ m.objs → i ≠ id → ∀ k, g.φ[i]? = some k → k ≠ b := fun i o hm hi k hk he => by
            subst he; exact hi (hw.inj i o id _ k hm hmem hk e)
          have hclM : ∀ k, clM g (w.setRow b (putAt c.toList off ws).toArray) m' k ≤ clM g w m k + clCells vs ws k := by
            intro k
            have := clMs_repl (φ := g.φ) (w := w) (w' := w.setRow b (putAt c.toList off ws).toArray) (o' := .cells (putAt cs0 off vs)) hw.sorted hmem (fun i o hm hi => by
              obtain ⟨k', hk', _, _⟩ := hw.obj i o hm
              rw [phi_getD hk']
              exact heapCells_congr (hoth k' (hne i o hm hi k' hk'))) k
            rw [phi_getD e] at this
            have h1 : clObj w b (.cells cs0) k = clCells cs0 c.toList k := by simp [clObj, heapCells, hcb]
            have h2 : clObj (w.setRow b (putAt c.toList off ws).toArray) b (.cells (putAt cs0 off vs)) k = clCells (putAt cs0 off vs) (putAt c.toList off ws) k := by
              simp [clObj, heapCells, hrow]
            have h3 := clCells_putAt cs0 off vs c.toList ws k hle (by simpa using hlen) hl
            have h4 : clM g (w.setRow b (putAt c.toList off ws).toArray) m' k = clMs g.φ (w.setRow b (putAt c.toList off ws).toArray) (Mem.repl m.objs id (.cells (putAt cs0 off vs))) k := by
              unfold clM; rw [hob]; rfl
            unfold clM at *
            omega
          exact {
            wi := {
              lg := fun k row hk => by
                obtain ⟨c', fz, hc', rest⟩ := hw.lg k row hk
                refine ⟨c', fz, ?_, rest⟩
                rw [hoth k (fun he => by subst he; rw [hlg] at hk; cases hk)]; exact hc'
              len := by rw [hnx]; exact hw.len
              sorted := by rw [hob]; exact repl_sorted _ _ hw.sorted
              bound := fun x hx => by
                rw [hob] at hx; rw [hnx]
                have : x.1 ∈ (Mem.repl m.objs id (.cells (putAt cs0 off vs))).map (·.1) := List.mem_map.2 ⟨x, hx, rfl⟩
                rw [repl_keys] at this
                obtain ⟨y, hy, he⟩ := List.mem_map.1 this
                rw [← he]; exact hw.bound y hy
              obj := fun i o hi => by
                rw [hob] at hi
                by_cases hid : i = id
                · subst hid
                  obtain rfl := repl_new hw.sorted hi
                  refine ⟨b, e, hlg, ⟨_, el, hrow, by simp [putAt_length]; exact hlen, fun j q hq => ?_⟩⟩
                  rw [putAt_get cs0 off vs hle] at hq
                  split at hq
                  · rename_i hh
                    obtain ⟨hcl, x, hx, hvr, hok⟩ := hcell _ _ hq
                    refine ⟨hcl, x, ?_, hvr, hok⟩
                    simp only [List.getElem?_toArray]
                    rw [putAt_get _ _ _ (by simpa using hoff), if_pos ⟨hh.1, by omega⟩]
                    exact hx
                  · rename_i hh
                    obtain ⟨hcl, x, hx, hvr, hok⟩ := hcells _ _ hq
                    refine ⟨hcl, x, ?_, hvr, hok⟩
                    simp only [List.getElem?_toArray]
                    rw [putAt_get _ _ _ (by simpa using hoff), if_neg (by rw [hl]; exact hh)]
                    simpa using hx
                · have hold := repl_old hi hid
                  obtain ⟨k, hk, hn, hr⟩ := hw.obj i o hold
                  exact ⟨k, hk, hn, hr.mono (Gh.Le.refl g) (hoth k (hne i o hold hid k hk)) fun p v h _ => h⟩
              inj := fun i o j o' k hi hj => by
                rw [hob] at hi hj
                have mem_old : ∀ i o, (i, o) ∈ Mem.repl m.objs id (.cells (putAt cs0 off vs)) → ∃ o', (i, o') ∈ m.objs := fun i o h => by
                  have : i ∈ (Mem.repl m.objs id (.cells (putAt cs0 off vs))).map (·.1) := List.mem_map.2 ⟨_, h, rfl⟩
                  rw [repl_keys] at this
                  obtain ⟨y, hy, he⟩ := List.mem_map.1 this
                  exact ⟨y.2, by rw [← he]; exact hy⟩
                obtain ⟨o1, h1⟩ := mem_old i o hi
                obtain ⟨o2, h2⟩ := mem_old j o' hj
                exact hw.inj i o1 j o2 k h1 h2
              scope := fun i o hi => by
                rw [hob] at hi
                by_cases hid : i = id
                · subst hid
                  obtain rfl := repl_new hw.sorted hi
                  cases hall : vs.all (PVal.under1 (i + 1)) with
                  | false => exact .inl (hup' hall)
                  | true =>
                    rcases hw.scope i _ hmem with h | h
                    · exact .inl (hup i h)
                    · refine .inr ?_
                      simp only [MObj.under, List.all_eq_true] at h hall ⊢
                      intro x hx
                      obtain ⟨j, hj⟩ := List.mem_iff_getElem?.1 hx
                      rw [putAt_get cs0 off vs hle] at hj
                      split at hj
                      · exact hall x (List.mem_of_getElem? hj)
                      · exact h x (List.mem_of_getElem? hj)
                · rcases hw.scope i o (repl_old hi hid) with h | h
                  · exact .inl (hup i h)
                  · exact .inr h
              phi := fun i k hk => by have := hw.phi i k hk; simpa using this
              bsz := hw.bsz_row hcb (by simp [putAt_length]) }
            vr := .tuple rfl (fun i c h => by simp at h)
            ok := trivial
            size := by simp
            φ := ⟨[], by simp, fun b h => by simp at h⟩
            lgle := fun k row h => ⟨row, h, List.prefix_refl _⟩
            bs := fun _ _ _ => rfl
            claims := fun k _ => by
              have := hclM k; have := hc k
              have h0 : clV (.tuple []) undef k = 0 := rfl
              omega
            claims' := fun k hk => by
              have := hclM k
              have h0 : clV (.tuple []) undef k = 0 := rfl
              have h1 := clM_lt hw hk
              have h2 : clCells vs ws k = 0 := clCells_lt hw hk vs ws fun i p hp => by
                obtain ⟨_, x, hx, _, hok⟩ := hcell i p hp
                exact ⟨x, hx, hok⟩
              omega
            keepLg := fun k row h _ => h
            keepBlk := fun k _ _ hno => hoth k (fun he => by subst he; exact hno id e)
            fresh := .setRow hcb
            R := (by first | rfl | exact h.R | exact h'.R.trans h.R)
            keepNone := fun _ _ h _ => h
            os := ⟨rfl, rfl, rfl⟩ }
    · cases hwr
  · cases hwr

end Go.Ev

/- New rows that are told, and rows that grow. -/
namespace Go.Ev

def Gh.tell (g : Gh) (b : Nat) (row : Row) : Gh := ⟨g.φ, fun k => if k = b then some row else g.lg k, g.bs, g.R⟩

theorem Gh.tell_new {g : Gh} {b : Nat} {row : Row} (h : g.lg b = none) : g.Le (g.tell b row) :=
  ⟨fun _ _ e => e, fun k r e => ⟨r, by
    have : k ≠ b := fun hk => by subst hk; rw [h] at e; cases e
    simp [Gh.tell, this, e], List.prefix_refl _⟩, fun _ _ _ => rfl, rfl⟩
theorem Gh.tell_grow {g : Gh} {b : Nat} {row row' : Row} (h : g.lg b = some row) (hp : row.cells <+: row'.cells) : g.Le (g.tell b row') :=
  ⟨fun _ _ e => e, fun k r e => by
    by_cases hk : k = b
    · subst hk
      rw [h] at e; cases e
      exact ⟨row', by simp [Gh.tell], hp⟩
    · exact ⟨r, by simp [Gh.tell, hk, e], List.prefix_refl _⟩, fun _ _ _ => rfl, rfl⟩

theorem clMs_le {φ : List Nat} {w : World} {l : List (Nat × MObj)} {id : Nat} {o : MObj} (h : (id, o) ∈ l) (k : Nat) : clObj w (φ.getD id 0) o k ≤ clMs φ w l k := by
  induction l with
  | nil => simp at h
  | cons e es ih =>
    obtain ⟨s, v⟩ := e
    simp only [clMs]
    rcases List.mem_cons.1 h with h | h
    · cases h; omega
    · have := ih h; omega

theorem WI.none_new {g : Gh} {w : World} {m : Mem} (hw : WI g w m) : g.lg w.heap.size = none := by
  cases h : g.lg w.heap.size with
  | none => rfl
  | some row => have := hw.lg_lt h; omega

/-- A new row, told as far as it goes. -/
theorem Step.newRow {ca : Nat → Nat} {g : Gh} {w w' : World} {m : Mem} {c : Array Value} {el : TypeId} {cells : List Value} {r : PVal} {v : Value} (hw : WI g w m)
    (hh : w'.heap = w.heap.push (.cells c el)) (hos : w'.os = w.os ∧ w'.output = w.output ∧ w'.tape = w.tape) (hp : cells <+: c.toList)
    (hv : VR (g.tell w.heap.size ⟨cells, c.size, el, true⟩) r v) (ho : OwnOk (g.tell w.heap.size ⟨cells, c.size, el, true⟩) r v)
    (hc : ∀ b, b < w.heap.size → clV r v b ≤ ca b) (h1 : ∀ b, clV r v b ≤ 1) :
    Step ca g w m r m (g.tell w.heap.size ⟨cells, c.size, el, true⟩) w' v := by
  have hle := Gh.tell_new (row := ⟨cells, c.size, el, true⟩) hw.none_new
  have hold : ∀ b, b < w.heap.size → w'.heap[b]? = w.heap[b]? := fun b hb => by
    rw [hh, Array.getElem?_push_lt hb]; exact (Array.getElem?_eq_getElem hb).symm
  have hcl : ∀ k, clM (g.tell w.heap.size ⟨cells, c.size, el, true⟩) w' m k = clM g w m k := fun k =>
    clMs_congr (fun id o he => by
      obtain ⟨b, hb, _, hr⟩ := hw.obj id o he
      refine ⟨rfl, ?_⟩
      rw [phi_getD hb]
      exact heapCells_congr (hold b hr.lt)) k
  have hlg : ∀ b, b < w.heap.size → (g.tell w.heap.size ⟨cells, c.size, el, true⟩).lg b = g.lg b := fun b hb => by
    have : b ≠ w.heap.size := by omega
    simp [Gh.tell, this]
  exact {
    wi := {
      lg := fun b row e => by
        by_cases hb : b = w.heap.size
        · subst hb
          simp [Gh.tell] at e
          subst e
          exact ⟨c, (0, 0), by rw [hh]; simp, rfl, hp, fun _ => rfl⟩
        · simp [Gh.tell, hb] at e
          obtain ⟨c', fz, hc', rest⟩ := hw.lg b row e
          exact ⟨c', fz, (hold b (hw.lg_lt e)).trans hc', rest⟩
      len := hw.len
      sorted := hw.sorted
      bound := hw.bound
      obj := fun id o he => by
        obtain ⟨b, hb, hn, hr⟩ := hw.obj id o he
        exact ⟨b, hb, (hlg b hr.lt).trans hn, hr.mono hle (hold b hr.lt) fun p v h _ => h.of_claim fun k hk => by
          obtain ⟨row, hrow⟩ := claim0_lg h hk
          exact hlg k (hw.lg_lt hrow)⟩
      inj := hw.inj
      scope := hw.scope
      phi := fun i k hk => by have := hw.phi i k hk; rw [hh]; simp; omega
      bsz := fun i k hk c' e' f' hc' => hw.bsz i k hk c' e' f' (by rw [← hold k (hw.phi i k hk)]; exact hc') }
    vr := hv
    ok := ho
    size := by rw [hh]; simp
    φ := ⟨[], by simp [Gh.tell], fun b h => by simp at h⟩
    lgle := hle.lg
    bs := fun _ _ _ => rfl
    claims := fun b hb => by rw [hcl]; have := hc b hb; omega
    claims' := fun b hb => by rw [hcl, clM_lt hw hb]; exact h1 b
    keepLg := fun b row h _ => (hlg b (hw.lg_lt h)).trans h
    keepBlk := fun b hb _ _ => hold b hb
    fresh := .push hh
    R := (by first | rfl | exact h.R | exact h'.R.trans h.R)
    keepNone := fun b hb h _ => by rw [hlg b hb]; exact h
    os := hos }

/-- A row that one slice alone may go on writing into grows. -/
theorem Step.grow {ca : Nat → Nat} {g : Gh} {w : World} {m : Mem} {b : Nat} {row : Row} {cur : Array Value} {news : List Value} {r : PVal} {v : Value} (hw : WI g w m)
    (hl : g.lg b = some row) (hcur : w.heap[b]? = some (.cells cur row.elem (0, 0))) (hfit : row.cells.length + news.length ≤ row.size) (hcl : clM g w m b = 0) (hca : 1 ≤ ca b)
    (hv : VR (g.tell b ⟨row.cells ++ news, row.size, row.elem, row.free⟩) r v) (ho : OwnOk (g.tell b ⟨row.cells ++ news, row.size, row.elem, row.free⟩) r v)
    (hc : ∀ k, clV r v k ≤ ca k) :
    Step ca g w m r m (g.tell b ⟨row.cells ++ news, row.size, row.elem, row.free⟩)
      (w.setRow b (cur.toList.take row.cells.length ++ news ++ cur.toList.drop (row.cells.length + news.length)).toArray) v := by
  obtain ⟨c, fz, hc', hsz, hp, hfr⟩ := hw.lg b row hl
  rw [hcur] at hc'; cases hc'
  have hbl := hw.lg_lt hl
  have hle := Gh.tell_grow (row' := ⟨row.cells ++ news, row.size, row.elem, row.free⟩) hl (List.prefix_append _ _)
  have htake : cur.toList.take row.cells.length = row.cells := by
    obtain ⟨t, ht⟩ := hp; rw [← ht]; simp
  rw [htake]
  have hrow : (w.setRow b (row.cells ++ news ++ cur.toList.drop (row.cells.length + news.length)).toArray).heap[b]? = some (.cells (row.cells ++ news ++ cur.toList.drop (row.cells.length + news.length)).toArray row.elem (0, 0)) := setRow_heap w b cur _ row.elem _ hcur
  have hoth : ∀ k, k ≠ b → (w.setRow b (row.cells ++ news ++ cur.toList.drop (row.cells.length + news.length)).toArray).heap[k]? = w.heap[k]? := fun k hk => setRow_other w b k _ hk
  have hobj : ∀ id o, (id, o) ∈ m.objs → ∀ k, g.φ[id]? = some k → k ≠ b := fun id o he k hk e => by
    subst e
    obtain ⟨k', hk', hn, _⟩ := hw.obj id o he
    rw [hk] at hk'; cases hk'
    rw [hl] at hn; cases hn
  have hclM : ∀ k, clM (g.tell b ⟨row.cells ++ news, row.size, row.elem, row.free⟩) (w.setRow b (row.cells ++ news ++ cur.toList.drop (row.cells.length + news.length)).toArray) m k = clM g w m k := fun k =>
    clMs_congr (fun id o he => by
      obtain ⟨k', hk', _, hr⟩ := hw.obj id o he
      refine ⟨rfl, ?_⟩
      rw [phi_getD hk']
      exact heapCells_congr (hoth k' (hobj id o he k' hk'))) k
  have hlg : ∀ k, k ≠ b → (g.tell b ⟨row.cells ++ news, row.size, row.elem, row.free⟩).lg k = g.lg k := fun k hk => by simp [Gh.tell, hk]
  exact {
    wi := {
      lg := fun k row' e => by
        by_cases hb : k = b
        · subst hb
          simp [Gh.tell] at e
          subst e
          refine ⟨_, (0, 0), hrow, ?_, ?_, fun _ => rfl⟩
          · simp; omega
          · simp
        · rw [hlg k hb] at e
          obtain ⟨c', fz, hc', rest⟩ := hw.lg k row' e
          exact ⟨c', fz, (hoth k hb).trans hc', rest⟩
      len := hw.len
      sorted := hw.sorted
      bound := hw.bound
      obj := fun id o he => by
        obtain ⟨k, hk, hn, hr⟩ := hw.obj id o he
        have hkb := hobj id o he k hk
        refine ⟨k, hk, (hlg k hkb).trans hn, hr.mono hle (hoth k hkb) fun p v h hs => h.of_claim fun k' hk' => ?_⟩
        refine hlg k' fun e => ?_
        subst e
        have h1 := hs k'
        rw [clV0_eq hk'] at h1
        have h2 := clMs_le (φ := g.φ) (w := w) he k'
        rw [phi_getD hk] at h2
        unfold clM at hcl
        omega
      inj := hw.inj
      scope := hw.scope
      phi := fun i k hk => by have := hw.phi i k hk; simpa using this
      bsz := hw.bsz_row hcur (by simp; omega) }
    vr := hv
    ok := ho
    size := by simp
    φ := ⟨[], by simp [Gh.tell], fun b h => by simp at h⟩
    lgle := hle.lg
    bs := fun _ _ _ => rfl
    claims := fun k hk => by rw [hclM]; have := hc k; omega
    claims' := fun k hk => by
      rw [hclM, clM_lt hw hk]
      have hz : clV r v k = 0 := by
        have hw' : w.heap.size ≤ k := hk
        -- what is claimed is told, and what is told lies below
        have key : ∀ p v, OwnOk0 (g.tell b ⟨row.cells ++ news, row.size, row.elem, row.free⟩) p v → clV0 p v k = 0 := by
          intro p v h
          unfold clV0
          split
          · rename_i e
            obtain ⟨row', hr'⟩ := claim0_lg h e
            by_cases hkb : k = b
            · omega
            · rw [hlg k hkb] at hr'
              have := hw.lg_lt hr'; omega
          · rfl
        unfold OwnOk at ho
        unfold clV
        split at ho
        · rename_i cs vs
          have : ∀ (cs : List PVal) (vs : List Value), (∀ (i : Nat) c, cs[i]? = some c → OwnOk0 (g.tell b ⟨row.cells ++ news, row.size, row.elem, row.free⟩) c (vs.getD i undef)) → clCells cs vs k = 0 := by
            intro cs
            induction cs with
            | nil => intro vs _; rfl
            | cons c cs ih =>
              intro vs h
              cases vs with
              | nil => rfl
              | cons x vs =>
                simp only [clCells]
                have a := key _ _ (by simpa using h 0 c rfl)
                have b' := ih vs fun i c' e => by simpa using h (i + 1) c' (by simpa using e)
                omega
          exact this cs vs.toList fun i c e => by simpa using ho i c e
        · exact key _ _ ho
      omega
    keepLg := fun k row' h h0 => by
      by_cases hk : k = b
      · subst hk; omega
      · exact (hlg k hk).trans h
    keepBlk := fun k hk h0 _ => hoth k fun e => by subst e; omega
    fresh := .setRow hcur
    R := (by first | rfl | exact h.R | exact h'.R.trans h.R)
    keepNone := fun k _ h _ => by
      by_cases hk : k = b
      · subst hk; rw [hl] at h; cases h
      · rw [hlg k hk]; exact h
    os := ⟨rfl, rfl, rfl⟩ }

end Go.Ev

/- Which operation of the model's an operation of the evaluator's stands for. -/
namespace Go.Ev

def valOk : Value → PVal → Bool
  | .bool a, .bool b => a == b
  | .int k n, .int j m => decide (k = j) && n == m
  | .string s, .str l => s.data.toList == l
  | .pointer none, .nilptr => true
  | .slice none 0 0, .slice [] c => !decide (c = .own)
  | .map none, .nilmap => true
  | .nilFunc, .nilfunc => true
  | .nilIface, .niliface => true
  | .func (.func f) a b, .func g c => f.beq g && a.isEmpty && b.isEmpty && c.isEmpty
  | _, _ => false
def valsOk : List Value → List PVal → Bool
  | [], [] => true
  | v :: vs, p :: ps => valOk v p && valsOk vs ps
  | _, _ => false

theorem valOk_vr {v : Value} {p : PVal} (h : valOk v p = true) (g : Gh) : VR g p v ∧ OwnOk g p v ∧ (∀ b, clV p v b = 0) ∧ p.isCell = true ∧ OwnOk0 g p v ∧ (∀ b, clV0 p v b = 0) ∧ p.flat = true := by
  unfold valOk at h
  split at h
  · simp at h; subst h; exact ⟨.bool _, trivial, fun _ => rfl, rfl, trivial, fun _ => rfl, rfl⟩
  · simp at h; obtain ⟨rfl, rfl⟩ := h; exact ⟨.int _ _, trivial, fun _ => rfl, rfl, trivial, fun _ => rfl, rfl⟩
  · rename_i s l
    simp at h
    obtain ⟨d⟩ := s
    have : d = l.toArray := by rw [← h]
    subst this
    exact ⟨.str _, trivial, fun _ => rfl, rfl, trivial, fun _ => rfl, rfl⟩
  · exact ⟨.nilptr, trivial, fun _ => rfl, rfl, trivial, fun _ => rfl, rfl⟩
  · rename_i c
    refine ⟨.slice0 fun _ => rfl, ?_, fun _ => ?_, rfl, ?_, fun _ => ?_, rfl⟩
    · cases c <;> simp [OwnOk, OwnOk0]
    · cases c <;> rfl
    · cases c <;> simp [OwnOk0]
    · cases c <;> rfl
  · exact ⟨.nilmap, trivial, fun _ => rfl, rfl, trivial, fun _ => rfl, rfl⟩
  · exact ⟨.nilfunc, trivial, fun _ => rfl, rfl, trivial, fun _ => rfl, rfl⟩
  · exact ⟨.niliface, trivial, fun _ => rfl, rfl, trivial, fun _ => rfl, rfl⟩
  · rename_i f a b g' c
    simp at h
    obtain ⟨⟨⟨rfl, rfl⟩, rfl⟩, rfl⟩ := h
    exact ⟨.func rfl (fun i c h => by simp at h) (fun i c h => by simp at h), trivial, fun _ => rfl, rfl, trivial, fun _ => rfl, rfl⟩
  · cases h

theorem valsOk_get {vs : List Value} {ps : List PVal} (h : valsOk vs ps = true) : vs.length = ps.length ∧ ∀ (i : Nat) p, ps[i]? = some p → ∃ v, vs[i]? = some v ∧ valOk v p = true := by
  induction vs generalizing ps with
  | nil => cases ps with
    | nil => exact ⟨rfl, fun i p h => by simp at h⟩
    | cons p ps => simp [valsOk] at h
  | cons v vs ih => cases ps with
    | nil => simp [valsOk] at h
    | cons p ps =>
      simp only [valsOk, Bool.and_eq_true] at h
      obtain ⟨hl, hg⟩ := ih h.2
      refine ⟨by simp [hl], fun i q hq => ?_⟩
      cases i with
      | zero => simp at hq; subst hq; exact ⟨v, rfl, h.1⟩
      | succ i => simpa using hg i q (by simpa using hq)

def sizeOk (P : Program) (t : TypeId) (n : Nat) : Bool := match P.info? t with | some i => i.size.beq n | none => false
def aggOk (P : Program) (t : TypeId) (agg : Bool) : Bool :=
  match P.underlying t with
  | some (.struct _) | some (.array _ _) => agg
  | some _ => !agg
  | none => false
def zeroOk (P : Program) (t : TypeId) (z : List PVal) : Bool :=
  match P.info? t with
  | some i => match i.zero with
    | some v => valsOk v.cells.toList z
    | none => false
  | none => false
/-- The zero value itself. -/
def zeroVOk (P : Program) (t : TypeId) (z : PVal) : Bool :=
  match P.info? t with
  | some i => match i.zero, z with
    | some (.agg cs), .agg ps => valsOk cs.toList ps
    | some v, p => valOk v p
    | none, _ => false
  | none => false

def opdOk : Operand → Opd → Bool
  | .tmp t, .mv s => t.beq s
  | .tmp t, .cp s => t.beq s
  | .const v, .val p => valOk v p
  | .func f, .val (.func g c) => f.beq g && c.isEmpty
  | .global g, .glob h => g.beq h
  | _, _ => false
def opdsOk : List Operand → List Opd → Bool
  | [], [] => true
  | x :: xs, y :: ys => opdOk x y && opdsOk xs ys
  | _, _ => false

def argsOf (op : Op) (mo : MOp) : List Operand :=
  match op with
  | .move x | .assign x | .box _ x | .load _ x | .nilCheck x | .unOp _ _ x | .convert _ _ x | .makeInterface _ x | .fieldAddr _ x _ | .field _ x _ | .typeAssert x _ _ _ | .extract x _ => [x]
  | .pick a b c => [a, b, c]
  | .build _ ps | .buildSlice _ _ ps => ps.toList.map (·.2)
  | .store _ a x => [a, x]
  | .binOp _ _ x y _ => [x, y]
  | .makeFunc _ _ caps => caps.toList
  | .makeSlice _ l c => [l, c]
  | .slice _ x lo hi mx => x :: (lo.toList ++ hi.toList ++ mx.toList)
  | .indexAddr _ x j | .index _ x j | .lookup _ x j _ => [x, j]
  | .mapUpdate _ m k v | .insert _ m k v => [m, k, v]
  | .call { callee := .value f, args, .. } => match mo with
    | .clone .. => args.toList
    | _ => f :: args.toList
  | .call { callee := .builtin _, args, .. } => args.toList
  | _ => []

/-- Does the ghost's state tell of the package-level variables? -/
def GlobOk (globs : Nat → Option (List PVal)) (g : Gh) : Prop := ∀ (i : Nat) cs, globs i = some cs → VR g (.eptr cs) (.pointer (some ⟨i, 0, none⟩))

structure Arg (g : Gh) (p : PVal) (v : Value) : Prop where
  vr : VR g p v
  ok : OwnOk g p v

def clA : List PVal → List Value → Nat → Nat
  | p :: ps, v :: vs, b => clV p v b + clA ps vs b
  | _, _, _ => 0

/-- An environment and the slots. -/
structure EnvR (g : Gh) (e : Env) (tmps : Array Value) : Prop where
  get : ∀ t p, (t, p) ∈ e → ∃ v, tmps[t]? = some v ∧ VR g p v ∧ OwnOk g p v
  nodup : (e.map (·.1)).Nodup

theorem env_get_mem {e : Env} {t : Nat} {p : PVal} (h : e.get t = some p) : (t, p) ∈ e := by
  induction e with
  | nil => simp [Env.get] at h
  | cons x xs ih =>
    obtain ⟨s, v⟩ := x
    simp only [Env.get] at h
    cases hb : s.beq t with
    | true => rw [hb] at h; simp at h; obtain rfl : s = t := Nat.eq_of_beq_eq_true hb; subst h; exact List.mem_cons_self
    | false => rw [hb] at h; simp at h; exact List.mem_cons_of_mem _ (ih h)

theorem env_del_sub (e : Env) (t : Nat) : (e.del t).Sublist e := by
  induction e with
  | nil => exact List.Sublist.refl _
  | cons x xs ih =>
    obtain ⟨s, v⟩ := x
    simp only [Env.del]
    cases hb : s.beq t with
    | true => simp
    | false => simp only [cond_false]; exact ih.cons_cons _

theorem env_del_not {e : Env} {t : Nat} (h : (e.map (·.1)).Nodup) (p : PVal) : (t, p) ∉ e.del t := by
  induction e with
  | nil => simp [Env.del]
  | cons x xs ih =>
    obtain ⟨s, v⟩ := x
    simp only [List.map_cons, List.nodup_cons] at h
    simp only [Env.del]
    cases hb : s.beq t with
    | true =>
      obtain rfl : s = t := Nat.eq_of_beq_eq_true hb
      simp only [cond_true]
      exact fun hm => h.1 (List.mem_map.2 ⟨_, hm, rfl⟩)
    | false =>
      simp only [cond_false]
      intro hm
      rcases List.mem_cons.1 hm with hm | hm
      · cases hm; simp at hb
      · exact ih h.2 hm

theorem clE_del {tmps : Array Value} {e : Env} {t : Nat} {p : PVal} (h : e.get t = some p) (k : Nat) : clV p (tmps.getD t undef) k + clE tmps (e.del t) k = clE tmps e k := by
  induction e with
  | nil => simp [Env.get] at h
  | cons x xs ih =>
    obtain ⟨s, v⟩ := x
    simp only [Env.get] at h
    simp only [Env.del]
    cases hb : s.beq t with
    | true =>
      rw [hb] at h; simp at h; subst h
      obtain rfl : s = t := Nat.eq_of_beq_eq_true hb
      simp [clE]
    | false =>
      rw [hb] at h; simp at h
      simp only [cond_false, clE]
      have := ih h
      omega

theorem clE_del_le (tmps : Array Value) (e : Env) (t : Nat) (k : Nat) : clE tmps (e.del t) k ≤ clE tmps e k := by
  induction e with
  | nil => exact Nat.le_refl _
  | cons x xs ih =>
    obtain ⟨s, v⟩ := x
    simp only [Env.del]
    cases hb : s.beq t with
    | true => simp [clE]
    | false => simp only [cond_false, clE]; omega

theorem EnvR.sub {g : Gh} {e e' : Env} {tmps : Array Value} (h : EnvR g e tmps) (hs : e'.Sublist e) : EnvR g e' tmps :=
  ⟨fun t p hm => h.get t p (hs.subset hm), h.nodup.sublist (hs.map _)⟩

theorem getD_of {tmps : Array Value} {t : Nat} {v : Value} (h : tmps[t]? = some v) : tmps.getD t undef = v := by
  simp [h]

inductive Args (g : Gh) : List PVal → List Value → Prop
  | nil : Args g [] []
  | cons {p : PVal} {v : Value} {ps : List PVal} {vs : List Value} : Arg g p v → Args g ps vs → Args g (p :: ps) (v :: vs)

end Go.Ev

/- The operations that leave the memory as it is. -/
namespace Go.Ev

/-- An operation of the model's comes to what the evaluator's comes to. -/
def Res (P : Program) (ρ : Operand → Value) (o : Oper) (ca : Nat → Nat) (g : Gh) (w : World) (m : Mem) (r : PVal) (m' : Mem) : Prop :=
  ∃ g' w' v, ((execOp ρ o).run P w = .ok (.value v) w' ∨ ((execOp ρ o).run P w = .ok .skip w' ∧ v = undef)) ∧ Step ca g w m r m' g' w' v

section
variable {g : Gh} {v : Value}
theorem VR.inv_bool {b : Bool} (h : VR g (.bool b) v) : v = .bool b := by cases h; rfl
theorem VR.inv_int {k : IntKind} {n : Int} (h : VR g (.int k n) v) : v = .int k n := by cases h; rfl
theorem VR.inv_str {s : List UInt8} (h : VR g (.str s) v) : v = .string ⟨s.toArray⟩ := by cases h; rfl
theorem VR.inv_nilptr (h : VR g .nilptr v) : v = .pointer none := by cases h; rfl
theorem VR.inv_niliface (h : VR g .niliface v) : v = .nilIface := by cases h; rfl
theorem VR.inv_nilmap (h : VR g .nilmap v) : v = .map none := by cases h; rfl
theorem VR.inv_ptr {id off : Nat} (h : VR g (.ptr id off) v) : ∃ b, g.φ[id]? = some b ∧ v = .pointer (some ⟨b, off, none⟩) := by cases h; exact ⟨_, by assumption, rfl⟩
theorem VR.inv_iface {t : Nat} {p : PVal} (h : VR g (.iface t p) v) : ∃ u, v = .iface t u ∧ p.flat = true ∧ VR g p u := by cases h; exact ⟨_, rfl, by assumption, by assumption⟩
theorem VR.inv_map {id : Nat} (h : VR g (.map id) v) : ∃ b, g.φ[id]? = some b ∧ v = .map (some b) := by cases h; exact ⟨_, by assumption, rfl⟩
theorem VR.inv_agg {cs : List PVal} (h : VR g (.agg cs) v) : ∃ vs : Array Value, v = .agg vs ∧ cs.length = vs.size ∧ (∀ c, c ∈ cs → c.isCell = true) ∧ ∀ (i : Nat) c, cs[i]? = some c → VR g c (vs.getD i undef) := by
  cases h; exact ⟨_, rfl, by assumption, by assumption, by assumption⟩
theorem VR.inv_tuple {cs : List PVal} (h : VR g (.tuple cs) v) : ∃ vs : Array Value, v = .tuple vs ∧ cs.length = vs.size ∧ ∀ (i : Nat) c, cs[i]? = some c → VR g c (vs.getD i undef) := by
  cases h; exact ⟨_, rfl, by assumption, by assumption⟩
theorem VR.inv_eptr {cs : List PVal} (h : VR g (.eptr cs) v) : ∃ b off row, ∃ vs : Nat → Value, v = .pointer (some ⟨b, off, none⟩) ∧ g.lg b = some row ∧ (∀ c, c ∈ cs → c.flat = true) ∧
    (∀ (j : Nat) c, cs[j]? = some c → row.cells[off + j]? = some (vs j)) ∧ ∀ (j : Nat) c, cs[j]? = some c → VR g c (vs j) := by
  cases h; exact ⟨_, _, _, _, rfl, by assumption, by assumption, by assumption, by assumption⟩
theorem VR.inv_oslice {sz id off len cap : Nat} (h : VR g (.oslice sz id off len cap) v) : ∃ a cap', v = .slice a len cap' ∧ len ≤ cap ∧ cap ≤ cap' ∧ (∃ b, g.φ[id]? = some b ∧ (cap' ≠ 0 → a = some ⟨b, off, none⟩) ∧ (cap' = cap ∨ off + cap' * sz ≤ g.bs b)) := by
  cases h; exact ⟨_, _, rfl, by assumption, by assumption, by assumption⟩
theorem VR.inv_slice {xs : List (List PVal)} {c : Cap} (h : VR g (.slice xs c) v) : ∃ a cap, v = .slice a xs.length cap ∧ xs.length ≤ cap ∧ (c = .exact → cap = xs.length) ∧
    (xs ≠ [] → ∃ b off row sz, ∃ vs : Nat → Nat → Value, a = some ⟨b, off, none⟩ ∧ g.lg b = some row ∧ (∀ x, x ∈ xs → x.length = sz ∧ ∀ c, c ∈ x → c.flat = true) ∧
      (∀ (i : Nat) x (j : Nat) c, xs[i]? = some x → x[j]? = some c → row.cells[off + i * sz + j]? = some (vs i j)) ∧ ∀ (i : Nat) x (j : Nat) c, xs[i]? = some x → x[j]? = some c → VR g c (vs i j)) := by
  cases h with
  | slice0 he => exact ⟨_, _, rfl, by simp, fun h => by simpa using he h, fun h => (h rfl).elim⟩
  | slice sz vs hne hl hcap hex hsz hc hv => exact ⟨_, _, rfl, hcap, hex, fun _ => ⟨_, _, _, sz, vs, rfl, hl, hsz, hc, hv⟩⟩
end

section
variable {P : Program} {ρ : Operand → Value} {g : Gh} {w : World} {m : Mem} {dst : Option Tmp} {ty : TypeId} {pos : String} {after : Array Edge} {guard : Option (Nat × Bool)} {ca : Nat → Nat}

theorem Res.pure {o : Oper} {r : PVal} {v : Value} (hw : WI g w m) (h : (execOp ρ o).run P w = .ok (.value v) w) (hv : VR g r v) (ho : OwnOk g r v) (hc : ∀ b, clV r v b ≤ ca b) :
    Res P ρ o ca g w m r m := ⟨g, w, v, .inl h, Step.pure hw hv ho hc⟩

theorem sim_move {x : Operand} {p : PVal} (hw : WI g w m) (h : Arg g p (ρ x)) (hc : ∀ b, clV p (ρ x) b ≤ ca b) : Res P ρ ⟨dst, .move x, ty, pos, after, guard⟩ ca g w m p m :=
  .pure hw (by simp [execOp]) h.vr h.ok hc
theorem sim_assign {x : Operand} {p : PVal} (hw : WI g w m) (h : Arg g p (ρ x)) (hc : ∀ b, clV p (ρ x) b ≤ ca b) : Res P ρ ⟨dst, .assign x, ty, pos, after, guard⟩ ca g w m p m :=
  .pure hw (by simp [execOp]) h.vr h.ok hc

theorem sim_pick {c x y : Operand} {t : Bool} {p q : PVal} (hw : WI g w m) (hx : VR g (.bool t) (ρ c)) (h : Arg g p (ρ x)) (h' : Arg g q (ρ y))
    (hc : ∀ b, clV p (ρ x) b + clV q (ρ y) b ≤ ca b) : Res P ρ ⟨dst, .pick c x y, ty, pos, after, guard⟩ ca g w m (bif t then p else q) m := by
  have hb : ρ c = .bool t := hx.inv_bool
  cases t with
  | true => exact .pure hw (by simp [execOp, hb, asBool]) h.vr h.ok fun b => by have := hc b; simp only [cond_true]; omega
  | false => exact .pure hw (by simp [execOp, hb, asBool]) h'.vr h'.ok fun b => by have := hc b; simp only [cond_false]; omega

theorem clV_zero_of {p : PVal} {v : Value} (h : ∀ xs, p ≠ .slice xs .own) (h' : ∀ cs, p ≠ .agg cs) (b : Nat) : clV p v b = 0 := by
  cases p with
  | slice xs c => cases c <;> first | exact absurd rfl (h _) | simp [clV, clV0, claim0]
  | agg cs => exact absurd rfl (h' _)
  | _ => simp [clV, clV0, claim0]
theorem OwnOk_of {p : PVal} {v : Value} (h : ∀ xs, p ≠ .slice xs .own) (h' : ∀ cs, p ≠ .agg cs) : OwnOk g p v := by
  cases p with
  | slice xs c => cases c <;> first | exact absurd rfl (h _) | simp [OwnOk, OwnOk0]
  | agg cs => exact absurd rfl (h' _)
  | _ => simp [OwnOk, OwnOk0]

/-- What isn't a slice, nor an aggregate, claims nothing. -/
theorem Res.plain {o : Oper} {r : PVal} {v : Value} (hw : WI g w m) (h : (execOp ρ o).run P w = .ok (.value v) w) (hv : VR g r v) (h1 : ∀ xs, r ≠ .slice xs .own) (h2 : ∀ cs, r ≠ .agg cs) :
    Res P ρ o ca g w m r m := .pure hw h hv (OwnOk_of h1 h2) fun b => by rw [clV_zero_of h1 h2]; omega

theorem sim_nilchk {x : Operand} {p : PVal} (hw : WI g w m) (h : Arg g p (ρ x)) (hp : p ≠ .nilptr) (hi : p ≠ .niliface) (hf : p ≠ .nilfunc) (hc : ∀ b, clV p (ρ x) b ≤ ca b) :
    Res P ρ ⟨dst, .nilCheck x, ty, pos, after, guard⟩ ca g w m p m := by
  refine .pure hw ?_ h.vr h.ok hc
  have hvr := h.vr
  obtain ⟨v, hv⟩ : ∃ v, ρ x = v := ⟨_, rfl⟩
  rw [hv] at hvr
  clear h hc
  rw [hv]
  cases hvr <;> first | (exfalso; first | exact hp rfl | exact hi rfl | exact hf rfl) | simp [execOp, hv]

theorem run_eqGuard_other (op : BinOp) (t : TypeId) (x y : Operand) (a b : Value) (h1 : a ≠ .nilIface ∨ b ≠ .nilIface) (h2 : (∀ cs, a ≠ .agg cs) ∨ (∀ cs, b ≠ .agg cs)) :
    (eqGuard op t x y a b).run P w = .ok () w := by
  unfold eqGuard
  cases op <;> simp
  all_goals
    cases a <;> cases b <;> simp_all

theorem sim_bin {op : BinOp} {t u : TypeId} {x y : Operand} {p q r : PVal} (hw : WI g w m) (hx : VR g p (ρ x)) (hy : VR g q (ρ y)) (h : binop op p q = some r) :
    Res P ρ ⟨dst, .binOp op t x y u, ty, pos, after, guard⟩ ca g w m r m := by
  unfold binop at h
  split at h
  · rename_i k a k' b
    have ex : ρ x = .int k a := hx.inv_int
    have ey : ρ y = .int k' b := hy.inv_int
    have hg : (eqGuard op t x y (.int k a) (.int k' b)).run P w = .ok () w := run_eqGuard_other _ _ _ _ _ _ (.inl (by simp)) (.inl (by simp))
    cases hsh : isShift op with
    | true =>
      rw [hsh] at h
      simp only [cond_true, intShift] at h
      cases hb : decide (b < 0) with
      | true => rw [hb] at h; simp at h
      | false =>
        rw [hb] at h
        simp only [cond_false] at h
        have hb' : ¬ b < 0 := of_decide_eq_false hb
        cases op <;> simp [isShift] at hsh
        · simp only [Option.some.injEq] at h; subst h
          exact .plain hw (by simp [execOp, ex, ey, hg, Go.binOp, Op.shift, hb']) (.int _ _) (by simp [wrapI]) (by simp [wrapI])
        · simp only [Option.some.injEq] at h; subst h
          exact .plain hw (by simp [execOp, ex, ey, hg, Go.binOp, Op.shift, hb']) (.int _ _) (by simp) (by simp)
    | false =>
      rw [hsh] at h
      simp only [cond_false] at h
      cases hk : decide (k = k') with
      | false => rw [hk] at h; simp at h
      | true =>
        rw [hk] at h
        simp only [cond_true] at h
        obtain rfl : k = k' := of_decide_eq_true hk
        cases op <;> simp [isShift] at hsh <;> simp only [intBin, intBits, Option.some.injEq] at h
        case quo =>
          cases hz : (b == 0) with
          | true => rw [hz] at h; simp at h
          | false =>
            rw [hz] at h; simp only [cond_false, Option.some.injEq] at h; subst h
            have : ¬ b = 0 := by simpa using hz
            exact .plain hw (by simp [execOp, ex, ey, hg, Go.binOp, Op.intDiv, this]) (.int _ _) (by simp [wrapI]) (by simp [wrapI])
        case rem =>
          cases hz : (b == 0) with
          | true => rw [hz] at h; simp at h
          | false =>
            rw [hz] at h; simp only [cond_false, Option.some.injEq] at h; subst h
            have : ¬ b = 0 := by simpa using hz
            exact .plain hw (by simp [execOp, ex, ey, hg, Go.binOp, Op.intDiv, this]) (.int _ _) (by simp) (by simp)
        case and | or | xor | andNot =>
          subst h
          refine .plain hw ?_ (.int _ _) (by simp [wrapI]) (by simp [wrapI])
          simp only [execOp, ex, ey, Sem.run_bind, hg, Result.andThen_ok, Go.binOp, ne_eq, not_true_eq_false, if_false]; rfl
        case add | sub | mul =>
          subst h
          exact .plain hw (by simp [execOp, ex, ey, hg, Go.binOp, Op.intArith]) (.int _ _) (by simp [wrapI]) (by simp [wrapI])
        all_goals
          subst h
          exact .plain hw (by simp [execOp, ex, ey, hg, Go.binOp, Op.intCmp]) (.bool _) (by simp) (by simp)
  · rename_i a b
    have ex : ρ x = .string ⟨a.toArray⟩ := hx.inv_str
    have ey : ρ y = .string ⟨b.toArray⟩ := hy.inv_str
    have hg : (eqGuard op t x y (.string ⟨a.toArray⟩) (.string ⟨b.toArray⟩)).run P w = .ok () w := run_eqGuard_other _ _ _ _ _ _ (.inl (by simp)) (.inl (by simp))
    cases op <;> simp at h
    all_goals
      subst h
      exact .plain hw (by simp [execOp, ex, ey, hg, Go.binOp, Op.stringOp, ByteArray.toList_eq]) (.bool _) (by simp) (by simp)
  · cases h

end
end Go.Ev

namespace Go.Ev

theorem run_underlying' {P : Program} {t : TypeId} {d : TypeDesc} (h : P.underlying t = some d) (w : World) : (underlying t).run P w = .ok d w := by
  simp [underlying, h]
theorem run_typeInfo' {P : Program} {t : TypeId} {i : TypeInfo} (h : P.info? t = some i) (w : World) : (typeInfo t).run P w = .ok i w := by
  simp [typeInfo, h]
theorem run_sizeOf' {P : Program} {t : TypeId} {i : TypeInfo} (h : P.info? t = some i) (w : World) : (sizeOf t).run P w = .ok i.size w := by
  simp [sizeOf, run_typeInfo' h]

section
variable {P : Program} {ρ : Operand → Value} {g : Gh} {w : World} {m : Mem} {dst : Option Tmp} {ty : TypeId} {pos : String} {after : Array Edge} {guard : Option (Nat × Bool)} {ca : Nat → Nat}

theorem run_equal_bool {t : TypeId} (hu : P.underlying t = some .bool) (a b : Bool) : (Op.equal t (.bool a) (.bool b)).run P w = .ok (a == b) w := by
  have : ∀ d, (Op.equalIn (d + 1) t (.bool a) (.bool b)).run P w = .ok (a == b) w := fun d => by simp [Op.equalIn, run_underlying' hu]
  exact this 9999

theorem sim_binB {t u : TypeId} {x y : Operand} {a b : Bool} {op : BinOp} {neg : Bool} (hw : WI g w m) (hu : P.underlying t = some .bool) (hop : op = bif neg then .neq else .eql)
    (hx : VR g (.bool a) (ρ x)) (hy : VR g (.bool b) (ρ y)) :
    Res P ρ ⟨dst, .binOp op t x y u, ty, pos, after, guard⟩ ca g w m (.bool (bif neg then !(a == b) else a == b)) m := by
  have ex := hx.inv_bool
  have ey := hy.inv_bool
  have hg : (eqGuard op t x y (.bool a) (.bool b)).run P w = .ok () w := run_eqGuard_other _ _ _ _ _ _ (.inl (by simp)) (.inl (by simp))
  subst hop
  cases neg with
  | true =>
    refine .plain hw ?_ (.bool _) (by simp) (by simp)
    simp only [cond_true] at hg ⊢
    simp only [execOp, ex, ey, Sem.run_bind, hg, Result.andThen_ok, Go.binOp, run_equal_bool hu, Sem.run_pure]
  | false =>
    refine .plain hw ?_ (.bool _) (by simp) (by simp)
    simp only [cond_false] at hg ⊢
    simp only [execOp, ex, ey, Sem.run_bind, hg, Result.andThen_ok, Go.binOp, run_equal_bool hu, Sem.run_pure]

theorem run_equal_ptr {t e : TypeId} (hu : P.underlying t = some (.pointer e)) (a b : Option Addr) (h : a = none ∨ b = none) : (Op.equal t (.pointer a) (.pointer b)).run P w = .ok (a.isNone && b.isNone) w := by
  have : ∀ d, (Op.equalIn (d + 1) t (.pointer a) (.pointer b)).run P w = .ok (a.isNone && b.isNone) w := fun d => by
    rcases h with rfl | rfl
    · simp [Op.equalIn, run_underlying' hu]
    · cases a <;> simp [Op.equalIn, run_underlying' hu]
  exact this 9999

theorem sim_eqvP {t u e : TypeId} {x y : Operand} {p q : PVal} {op : BinOp} {neg r : Bool} (hw : WI g w m) (hu : P.underlying t = some (.pointer e)) (hop : op = bif neg then .neq else .eql)
    (hx : VR g p (ρ x)) (hy : VR g q (ρ y)) (h : sameNilP p q = some r) :
    Res P ρ ⟨dst, .binOp op t x y u, ty, pos, after, guard⟩ ca g w m (.bool (bif neg then !r else r)) m := by
  obtain ⟨a, b, ex, ey, hn, hr⟩ : ∃ a b, ρ x = .pointer a ∧ ρ y = .pointer b ∧ (a = none ∨ b = none) ∧ r = (a.isNone && b.isNone) := by
    unfold sameNilP at h
    split at h
    · exact ⟨_, _, hx.inv_nilptr, hy.inv_nilptr, .inl rfl, by simpa using h.symm⟩
    · obtain ⟨b, _, e⟩ := hy.inv_ptr
      exact ⟨_, _, hx.inv_nilptr, e, .inl rfl, by simpa using h.symm⟩
    · obtain ⟨b, _, e⟩ := hx.inv_ptr
      exact ⟨_, _, e, hy.inv_nilptr, .inr rfl, by simpa using h.symm⟩
    · cases h
  have hg : (eqGuard op t x y (.pointer a) (.pointer b)).run P w = .ok () w := run_eqGuard_other _ _ _ _ _ _ (.inl (by simp)) (.inl (by simp))
  subst hop
  cases neg with
  | true =>
    refine .plain hw ?_ (.bool _) (by simp) (by simp)
    simp only [cond_true] at hg ⊢
    simp only [execOp, ex, ey, Sem.run_bind, hg, Result.andThen_ok, Go.binOp, run_equal_ptr hu a b hn, Sem.run_pure, hr]
  | false =>
    refine .plain hw ?_ (.bool _) (by simp) (by simp)
    simp only [cond_false] at hg ⊢
    simp only [execOp, ex, ey, Sem.run_bind, hg, Result.andThen_ok, Go.binOp, run_equal_ptr hu a b hn, Sem.run_pure, hr]

def isConst : Operand → Bool
  | .const _ => true
  | _ => false

theorem run_equal_ifc {t : TypeId} {ms : Array (String × TypeId)} (hu : P.underlying t = some (.interface ms)) : 
    (Op.equal t .nilIface .nilIface).run P w = .ok true w ∧ (∀ k v, (Op.equal t .nilIface (.iface k v)).run P w = .ok false w) ∧ (∀ k v, (Op.equal t (.iface k v) .nilIface).run P w = .ok false w) := by
  have : ∀ d, (Op.equalIn (d + 1) t .nilIface .nilIface).run P w = .ok true w ∧ (∀ k v, (Op.equalIn (d + 1) t .nilIface (.iface k v)).run P w = .ok false w) ∧ (∀ k v, (Op.equalIn (d + 1) t (.iface k v) .nilIface).run P w = .ok false w) := fun d =>
    ⟨by simp [Op.equalIn, run_underlying' hu], fun k v => by simp [Op.equalIn, run_underlying' hu], fun k v => by simp [Op.equalIn, run_underlying' hu]⟩
  exact this 9999

theorem run_eqGuard_nil (op : BinOp) (t : TypeId) (x y : Operand) (h : isConst x = true ∨ isConst y = true) : (eqGuard op t x y .nilIface .nilIface).run P w = .ok () w := by
  unfold eqGuard
  cases op <;> simp
  all_goals
    rcases h with h | h
    · cases x <;> simp_all [isConst]
    · cases y <;> cases x <;> simp_all [isConst]

theorem sim_eqvI {t u : TypeId} {ms : Array (String × TypeId)} {x y : Operand} {p q : PVal} {op : BinOp} {neg r : Bool} (hw : WI g w m) (hu : P.underlying t = some (.interface ms)) (hop : op = bif neg then .neq else .eql)
    (hk : isConst x = true ∨ isConst y = true) (hx : VR g p (ρ x)) (hy : VR g q (ρ y)) (h : sameNilI p q = some r) :
    Res P ρ ⟨dst, .binOp op t x y u, ty, pos, after, guard⟩ ca g w m (.bool (bif neg then !r else r)) m := by
  obtain ⟨h1, h2, h3⟩ := run_equal_ifc (w := w) hu
  obtain ⟨a, b, ex, ey, hg, he⟩ : ∃ a b, ρ x = a ∧ ρ y = b ∧ (eqGuard op t x y a b).run P w = .ok () w ∧ (∀ neg : Bool, (Go.binOp (bif neg then .neq else .eql) t a b).run P w = .ok (.bool (bif neg then !r else r)) w) := by
    unfold sameNilI at h
    split at h
    · simp at h; subst h
      refine ⟨_, _, hx.inv_niliface, hy.inv_niliface, run_eqGuard_nil _ _ _ _ hk, fun neg => ?_⟩
      cases neg <;> simp [Go.binOp, h1]
    · simp at h; subst h
      obtain ⟨v, e, _⟩ := hy.inv_iface
      refine ⟨_, _, hx.inv_niliface, e, run_eqGuard_other _ _ _ _ _ _ (.inr (by simp)) (.inl (by simp)), fun neg => ?_⟩
      cases neg <;> simp [Go.binOp, h2]
    · simp at h; subst h
      obtain ⟨v, e, _⟩ := hx.inv_iface
      refine ⟨_, _, e, hy.inv_niliface, run_eqGuard_other _ _ _ _ _ _ (.inl (by simp)) (.inl (by simp)), fun neg => ?_⟩
      cases neg <;> simp [Go.binOp, h3]
    · cases h
  subst hop
  refine .plain hw ?_ (.bool _) (by simp) (by simp)
  simp only [execOp, ex, ey, Sem.run_bind, hg, Result.andThen_ok, he neg, Sem.run_pure]

theorem sim_not {t : TypeId} {x : Operand} {b : Bool} (hw : WI g w m) (hx : VR g (.bool b) (ρ x)) : Res P ρ ⟨dst, .unOp .not t x, ty, pos, after, guard⟩ ca g w m (.bool (!b)) m :=
  .plain hw (by simp [execOp, hx.inv_bool, Op.unary]) (.bool _) (by simp) (by simp)
theorem sim_neg {t : TypeId} {x : Operand} {k : IntKind} {n : Int} (hw : WI g w m) (hx : VR g (.int k n) (ρ x)) : Res P ρ ⟨dst, .unOp .neg t x, ty, pos, after, guard⟩ ca g w m (wrapI k (0 - n)) m := by
  refine .plain hw ?_ (.int _ _) (by simp [wrapI]) (by simp [wrapI])
  simp only [execOp, hx.inv_int, Op.unary, Op.intArith, Sem.run_bind, Sem.run_pure, Result.andThen_ok]

theorem sim_conv {s d : TypeId} {x : Operand} {k k' : IntKind} {n : Int} {ds : TypeDesc} (hw : WI g w m) (hs : P.underlying s = some ds) (hd : P.underlying d = some (.int k)) (hx : VR g (.int k' n) (ρ x)) :
    Res P ρ ⟨dst, .convert s d x, ty, pos, after, guard⟩ ca g w m (wrapI k n) m := by
  refine .plain hw ?_ (.int _ _) (by simp [wrapI]) (by simp [wrapI])
  simp only [execOp, hx.inv_int, convert, Sem.run_bind, run_underlying' hs, run_underlying' hd, Result.andThen_ok, Conv.intToInt, Sem.run_pure]

theorem sim_iface {t : TypeId} {x : Operand} {p : PVal} {d : TypeDesc} (hw : WI g w m) (hu : P.underlying t = some d) (hd : ∀ ms, d ≠ .interface ms) (hp : p.flat = true) (hx : VR g p (ρ x)) :
    Res P ρ ⟨dst, .makeInterface t x, ty, pos, after, guard⟩ ca g w m (.iface t p) m := by
  refine .plain hw ?_ (.iface hp hx) (by simp) (by simp)
  simp only [execOp, Instr.makeInterface, Sem.run_bind, run_underlying' hu, Result.andThen_ok]
  cases d <;> first | exact absurd rfl (hd _) | simp

theorem args_get {ps : List PVal} {vs : List Value} (h : Args g ps vs) : ps.length = vs.length ∧ ∀ (i : Nat) p, ps[i]? = some p → ∃ v, vs[i]? = some v ∧ Arg g p v := by
  induction h with
  | nil => exact ⟨rfl, fun i p h => by simp at h⟩
  | cons h1 _ ih =>
    refine ⟨by simp [ih.1], fun i p hp => ?_⟩
    cases i with
    | zero => simp at hp; subst hp; exact ⟨_, rfl, h1⟩
    | succ i => simpa using ih.2 i p (by simpa using hp)

theorem sim_mkfn {f : Nat} {caps : Array Operand} {ps : List PVal} (hw : WI g w m) (h : Args g ps (caps.toList.map ρ)) (hc : ps.all PVal.isCap = true) :
    Res P ρ ⟨dst, .makeFunc (.func f) #[] caps, ty, pos, after, guard⟩ ca g w m (.func f (ps.map PVal.nz0)) m := by
  obtain ⟨hl, hg⟩ := args_get h
  refine .plain hw (v := .func (.func f) #[] (caps.map ρ)) ?_ (.func (by simpa using hl) (fun i c e => ?_) (fun i c e => ?_)) (by simp) (by simp)
  · simp [execOp, Instr.makeFunc]
  · rw [List.getElem?_map] at e
    cases hx : ps[i]? with
    | none => rw [hx] at e; cases e
    | some c' =>
      rw [hx] at e; cases e
      rw [PVal.isCap_nz0]
      exact List.all_eq_true.1 hc c' (List.mem_of_getElem? hx)
  · rw [List.getElem?_map] at e
    cases hx : ps[i]? with
    | none => rw [hx] at e; cases e
    | some c' =>
      rw [hx] at e; cases e
      obtain ⟨v, hv, ha⟩ := hg i c' hx
      have : (caps.map ρ).getD i undef = v := by
        have h1 : (caps.map ρ).toList[i]? = some v := by simpa using hv
        simp only [Array.getElem?_toList] at h1
        exact getD_of h1
      rw [this]
      exact ha.vr.nz0

theorem sim_fadd_ptr {t : TypeId} {x : Operand} {j : Nat} {fs : Array Field} {f : Field} {i : TypeInfo} {id o : Nat} (hw : WI g w m) (hu : P.underlying t = some (.struct fs)) (hf : fs[j]? = some f)
    (hi : P.info? f.type = some i) (hz : i.size ≠ 0) (hx : VR g (.ptr id o) (ρ x)) :
    Res P ρ ⟨dst, .fieldAddr t x j, ty, pos, after, guard⟩ ca g w m (.ptr id (o + f.offset)) m := by
  obtain ⟨b, hb, e⟩ := hx.inv_ptr
  refine .plain hw (v := .pointer (some ⟨b, o + f.offset, none⟩)) ?_ (.ptr hb) (by simp) (by simp)
  simp [execOp, Instr.fieldAt, run_underlying' hu, hf, e, Instr.sureAddr, fieldPlace, run_sizeOf' hi, hz, add_plain]

theorem VR.eptr_drop {cs : List PVal} {b off n : Nat} (h : VR g (.eptr cs) (.pointer (some ⟨b, off, none⟩))) : VR g (.eptr (cs.drop n)) (.pointer (some ⟨b, off + n, none⟩)) := by
  obtain ⟨b', off', row, vs, e, hl, hf, hc, hv⟩ := h.inv_eptr
  cases e
  refine .eptr (fun j => vs (n + j)) hl (fun c hm => hf c (List.mem_of_mem_drop hm)) (fun j c e => ?_) (fun j c e => ?_)
  · rw [List.getElem?_drop] at e
    have := hc (n + j) c e
    rw [show off + n + j = off + (n + j) by omega]; exact this
  · rw [List.getElem?_drop] at e
    exact hv (n + j) c e

theorem sim_fadd_eptr {t : TypeId} {x : Operand} {j : Nat} {fs : Array Field} {f : Field} {i : TypeInfo} {cs : List PVal} (hw : WI g w m) (hu : P.underlying t = some (.struct fs)) (hf : fs[j]? = some f)
    (hi : P.info? f.type = some i) (hz : i.size ≠ 0) (hx : VR g (.eptr cs) (ρ x)) :
    Res P ρ ⟨dst, .fieldAddr t x j, ty, pos, after, guard⟩ ca g w m (.eptr (cs.drop f.offset)) m := by
  obtain ⟨b, off, row, vs, e, _⟩ := hx.inv_eptr
  rw [e] at hx
  refine .plain hw (v := .pointer (some ⟨b, off + f.offset, none⟩)) ?_ hx.eptr_drop (by simp) (by simp)
  simp [execOp, Instr.fieldAt, run_underlying' hu, hf, e, Instr.sureAddr, fieldPlace, run_sizeOf' hi, hz, add_plain]

end
end Go.Ev

namespace Go.Ev

section
variable {P : Program} {ρ : Operand → Value} {g : Gh} {w : World} {m : Mem} {dst : Option Tmp} {ty : TypeId} {pos : String} {after : Array Edge} {guard : Option (Nat × Bool)} {ca : Nat → Nat}

theorem natOf_eq {p : PVal} {i : Nat} (h : natOf p = some i) : ∃ k, p = .int k i := by
  unfold natOf at h
  split at h
  · rename_i k n
    cases hd : decide (0 ≤ n) with
    | false => rw [hd] at h; simp at h
    | true =>
      rw [hd] at h
      simp only [cond_true, Option.some.injEq] at h
      have : 0 ≤ n := of_decide_eq_true hd
      exact ⟨k, by rw [← h, Int.toNat_of_nonneg this]⟩
  · cases h

theorem slice_elem {xs : List (List PVal)} {c : Cap} {v : Value} (h : VR g (.slice xs c) v) {i : Nat} {x : List PVal} (hx : xs[i]? = some x) :
    ∃ b off cap, v = .slice (some ⟨b, off, none⟩) xs.length cap ∧ VR g (.eptr x) (.pointer (some ⟨b, off + i * x.length, none⟩)) := by
  obtain ⟨a, cap, e, _, _, hf⟩ := h.inv_slice
  have hne : xs ≠ [] := by intro e; rw [e] at hx; simp at hx
  obtain ⟨b, off, row, sz, vs, ha, hl, hsz, hc, hv⟩ := hf hne
  subst ha
  obtain ⟨h1, h2⟩ := hsz x (List.mem_of_getElem? hx)
  refine ⟨b, off, cap, e, .eptr (fun j => vs i j) hl h2 (fun j c e => ?_) (fun j c e => hv i x j c hx e)⟩
  rw [h1]; exact hc i x j c hx e

theorem sim_idxS_slice {t e : TypeId} {x j : Operand} {inf : TypeInfo} {sz i : Nat} {xs : List (List PVal)} {c : Cap} {q : PVal} {y : List PVal} (hw : WI g w m) (hu : P.underlying t = some (.slice e)) (hi : P.info? e = some inf)
    (hs : inf.size = sz) (hx : VR g (.slice xs c) (ρ x)) (hj : VR g q (ρ j)) (hn : natOf q = some i) (hy : xs[i]? = some y) (hl : y.length = sz) :
    Res P ρ ⟨dst, .indexAddr t x j, ty, pos, after, guard⟩ ca g w m (.eptr y) m := by
  obtain ⟨k, rfl⟩ := natOf_eq hn
  obtain ⟨b, off, cap, ex, hv⟩ := slice_elem hx hy
  have hlt : i < xs.length := (List.getElem?_eq_some_iff.1 hy).1
  refine .plain hw (v := .pointer (some ⟨b, off + i * y.length, none⟩)) ?_ hv (by simp) (by simp)
  have hlt' : (i : Int) < xs.length := by omega
  simp [execOp, Instr.indexAt, ex, hj.inv_int, asIntOf, run_underlying' hu, hlt, run_sizeOf' hi, add_plain, hs, hl]

theorem sim_idxS_oslice {t e : TypeId} {x j : Operand} {inf : TypeInfo} {sz i id off len cap : Nat} {q : PVal} (hw : WI g w m) (hu : P.underlying t = some (.slice e)) (hi : P.info? e = some inf)
    (hs : inf.size = sz) (hx : VR g (.oslice sz id off len cap) (ρ x)) (hj : VR g q (ρ j)) (hn : natOf q = some i) (hl : i < len) :
    Res P ρ ⟨dst, .indexAddr t x j, ty, pos, after, guard⟩ ca g w m (.ptr id (off + i * sz)) m := by
  obtain ⟨k, rfl⟩ := natOf_eq hn
  obtain ⟨a, cap', ex, h1, h2, h3⟩ := hx.inv_oslice
  obtain ⟨b, hb, h4, _⟩ := h3
  obtain rfl := h4 (by omega)
  refine .plain hw (v := .pointer (some ⟨b, off + i * sz, none⟩)) ?_ (.ptr hb) (by simp) (by simp)
  simp [execOp, Instr.indexAt, ex, hj.inv_int, asIntOf, run_underlying' hu, hl, run_sizeOf' hi, add_plain, hs]

theorem sim_idxA_ptr {t e : TypeId} {x j : Operand} {inf : TypeInfo} {sz i n id off : Nat} {q : PVal} (hw : WI g w m) (hu : P.underlying t = some (.array n e)) (hi : P.info? e = some inf)
    (hs : inf.size = sz) (hx : VR g (.ptr id off) (ρ x)) (hj : VR g q (ρ j)) (hn : natOf q = some i) (hl : i < n) :
    Res P ρ ⟨dst, .indexAddr t x j, ty, pos, after, guard⟩ ca g w m (.ptr id (off + i * sz)) m := by
  obtain ⟨k, rfl⟩ := natOf_eq hn
  obtain ⟨b, hb, ex⟩ := hx.inv_ptr
  refine .plain hw (v := .pointer (some ⟨b, off + i * sz, none⟩)) ?_ (.ptr hb) (by simp) (by simp)
  simp [execOp, Instr.indexAt, ex, hj.inv_int, asIntOf, run_underlying' hu, hl, run_sizeOf' hi, add_plain, hs, Instr.sureAddr]

theorem sim_idxA_eptr {t e : TypeId} {x j : Operand} {inf : TypeInfo} {sz i n : Nat} {cs : List PVal} {q : PVal} (hw : WI g w m) (hu : P.underlying t = some (.array n e)) (hi : P.info? e = some inf)
    (hs : inf.size = sz) (hx : VR g (.eptr cs) (ρ x)) (hj : VR g q (ρ j)) (hn : natOf q = some i) (hl : i < n) :
    Res P ρ ⟨dst, .indexAddr t x j, ty, pos, after, guard⟩ ca g w m (.eptr (cs.drop (i * sz))) m := by
  obtain ⟨k, rfl⟩ := natOf_eq hn
  obtain ⟨b, off, row, vs, ex, _⟩ := hx.inv_eptr
  rw [ex] at hx
  refine .plain hw (v := .pointer (some ⟨b, off + i * sz, none⟩)) ?_ hx.eptr_drop (by simp) (by simp)
  simp [execOp, Instr.indexAt, ex, hj.inv_int, asIntOf, run_underlying' hu, hl, run_sizeOf' hi, add_plain, hs, Instr.sureAddr]

/-- A part of an aggregate. -/
theorem run_part {t : TypeId} {d : TypeDesc} {inf : TypeInfo} {agg : Bool} {n off : Nat} (hu : P.underlying t = some d) (hi : P.info? t = some inf) (hs : inf.size = n) (ha : aggOk P t agg = true)
    (hn : agg = true ∨ n = 1) {cs : List PVal} {vs : Array Value} {r : PVal} (hl : cs.length = vs.size) (hcell : ∀ c, c ∈ cs → c.isCell = true) (hv : ∀ (i : Nat) c, cs[i]? = some c → VR g c (vs.getD i undef))
    (hb : off + n ≤ cs.length) (hr : cell1 agg ((cs.drop off).take n) = some r) :
    ∃ v, (part t vs off).run P w = .ok v w ∧ VR g r v ∧ OwnOk g r v ∧ ∀ b, clV r v b = 0 := by
  have hagg : (isAgg t).run P w = .ok agg w := by
    unfold aggOk at ha
    rw [hu] at ha
    cases d <;> simp at ha <;> simp [isAgg, run_underlying' hu, ha]
  cases agg with
  | true =>
    simp only [cell1, cond_true, Option.some.injEq] at hr
    subst hr
    refine ⟨.agg (vs.extract off (off + n)), by simp [part, hagg, run_sizeOf' hi, hs], .agg (by simp; omega) (fun c hm => ?_) (fun i c e => ?_), ?_, fun b => ?_⟩
    · obtain ⟨c', hm', rfl⟩ := List.mem_map.1 hm
      rw [PVal.isCell_nz0]
      exact hcell c' (List.mem_of_mem_drop (List.mem_of_mem_take hm'))
    · rw [List.getElem?_map] at e
      cases hx : ((cs.drop off).take n)[i]? with
      | none => rw [hx] at e; cases e
      | some c' =>
        rw [hx] at e; cases e
        have hin : i < n := by have := (List.getElem?_eq_some_iff.1 hx).1; simp at this; omega
        rw [List.getElem?_take_of_lt hin, List.getElem?_drop] at hx
        have h1 := hv _ _ hx
        have h2 : (vs.extract off (off + n)).getD i undef = vs.getD (off + i) undef := by
          have : off + i < vs.size := by omega
          simp only [Array.getD_eq_getD_getElem?, Array.getElem?_extract]
          rw [if_pos (by omega)]
        rw [h2]; exact h1.nz0
    · have := OwnOk_nz1 g (.agg ((cs.drop off).take n)) (.agg (vs.extract off (off + n)))
      exact this
    · exact clV_nz1 (.agg ((cs.drop off).take n)) _ b
  | false =>
    obtain rfl : n = 1 := by simpa using hn
    simp only [cell1, cond_false] at hr
    split at hr
    · rename_i c hc
      cases hr
      have hx : cs[off]? = some c := by
        have : ((cs.drop off).take 1)[0]? = some c := by rw [hc]; rfl
        rw [List.getElem?_take_of_lt (by omega), List.getElem?_drop] at this
        simpa using this
      have hlt : off < vs.size := by omega
      refine ⟨vs.getD off undef, ?_, (hv _ _ hx).nz0, ?_, fun b => ?_⟩
      · simp [part, hagg, hlt]
      · have hcl := hcell c (List.mem_of_getElem? hx)
        have e1 : c.nz0 = c.nz1 := by cases c <;> first | rfl | simp [PVal.isCell] at hcl
        rw [e1]; exact OwnOk_nz1 _ _ _
      · have hcl := hcell c (List.mem_of_getElem? hx)
        have e1 : c.nz0 = c.nz1 := by cases c <;> first | rfl | simp [PVal.isCell] at hcl
        rw [e1]; exact clV_nz1 _ _ _
    · cases hr

theorem sim_fld {t : TypeId} {x : Operand} {j n : Nat} {fs : Array Field} {f : Field} {i : TypeInfo} {d : TypeDesc} {agg : Bool} {cs : List PVal} {r : PVal} (hw : WI g w m) (hu : P.underlying t = some (.struct fs)) (hf : fs[j]? = some f)
    (hi : P.info? f.type = some i) (hd : P.underlying f.type = some d) (hs : i.size = n) (ha : aggOk P f.type agg = true) (hn : agg = true ∨ n = 1) (hx : VR g (.agg cs) (ρ x)) (hb : f.offset + n ≤ cs.length)
    (hr : cell1 agg ((cs.drop f.offset).take n) = some r) :
    Res P ρ ⟨dst, .field t x j, ty, pos, after, guard⟩ ca g w m r m := by
  obtain ⟨vs, ex, hl, hc, hv⟩ := hx.inv_agg
  obtain ⟨v, hrun, hvr, hok, hcl⟩ := run_part (w := w) hd hi hs ha hn hl hc hv hb hr
  refine .pure hw (v := v) ?_ hvr hok fun b => by rw [hcl]; omega
  simp [execOp, Instr.field, run_underlying' hu, hf, ex, asAgg, hrun]

theorem sim_idxV {t e : TypeId} {x j : Operand} {len n k : Nat} {i : TypeInfo} {d : TypeDesc} {agg : Bool} {cs : List PVal} {q r : PVal} (hw : WI g w m) (hu : P.underlying t = some (.array len e))
    (hi : P.info? e = some i) (hd : P.underlying e = some d) (hs : i.size = n) (ha : aggOk P e agg = true) (hn : agg = true ∨ n = 1) (hx : VR g (.agg cs) (ρ x)) (hj : VR g q (ρ j)) (hq : natOf q = some k) (hk : k < len)
    (hb : k * n + n ≤ cs.length) (hr : cell1 agg ((cs.drop (k * n)).take n) = some r) :
    Res P ρ ⟨dst, .index t x j, ty, pos, after, guard⟩ ca g w m r m := by
  obtain ⟨kk, rfl⟩ := natOf_eq hq
  obtain ⟨vs, ex, hl, hc, hv⟩ := hx.inv_agg
  obtain ⟨v, hrun, hvr, hok, hcl⟩ := run_part (w := w) hd hi hs ha hn hl hc hv hb hr
  refine .pure hw (v := v) ?_ hvr hok fun b => by rw [hcl]; omega
  simp [execOp, Instr.index, hj.inv_int, asIntOf, run_underlying' hu, ex, hk, run_sizeOf' hi, hs, hrun]

theorem sim_extract {x : Operand} {i : Nat} {vs : List PVal} {v : PVal} (hw : WI g w m) (hx : VR g (.tuple vs) (ρ x)) (hi : vs[i]? = some v) :
    Res P ρ ⟨dst, .extract x i, ty, pos, after, guard⟩ ca g w m v.nz1 m := by
  obtain ⟨us, ex, hl, hv⟩ := hx.inv_tuple
  have hlt : i < us.size := by have := (List.getElem?_eq_some_iff.1 hi).1; omega
  have h1 := hv i v hi
  refine .pure hw (v := us.getD i undef) ?_ h1.nz1 (OwnOk_nz1 _ _ _) fun b => by rw [clV_nz1]; omega
  simp [execOp, ex, Instr.extract, hlt]

theorem sim_len_slice {t e : TypeId} {x : Operand} {a : Option Addr} {n c : Nat} (hw : WI g w m) (hu : P.underlying t = some (.slice e)) (hx : ρ x = .slice a n c) :
    Res P ρ ⟨dst, .call { callee := .builtin .len, args := #[x], argTypes := #[t] }, ty, pos, after, guard⟩ ca g w m (.int .i64 n) m := by
  refine .plain hw (v := .int .i64 n) ?_ (.int _ _) (by simp) (by simp)
  simp [execOp, resolve, invoke, builtin, Builtin.len_, run_underlying' hu, hx, goInt]

theorem sim_len_str {t : TypeId} {x : Operand} {s : List UInt8} (hw : WI g w m) (hu : P.underlying t = some .string) (hx : VR g (.str s) (ρ x)) :
    Res P ρ ⟨dst, .call { callee := .builtin .len, args := #[x], argTypes := #[t] }, ty, pos, after, guard⟩ ca g w m (.int .i64 s.length) m := by
  refine .plain hw (v := .int .i64 s.length) ?_ (.int _ _) (by simp) (by simp)
  have hs : (⟨s.toArray⟩ : ByteArray).size = s.length := rfl
  simp [execOp, resolve, invoke, builtin, Builtin.len_, run_underlying' hu, hx.inv_str, goInt, hs]

theorem sim_lenA {t e : TypeId} {x : Operand} {n : Nat} (hw : WI g w m) (hu : P.underlying t = some (.array n e)) :
    Res P ρ ⟨dst, .call { callee := .builtin .len, args := #[x], argTypes := #[t] }, ty, pos, after, guard⟩ ca g w m (.int .i64 n) m := by
  refine .plain hw (v := .int .i64 n) ?_ (.int _ _) (by simp) (by simp)
  simp [execOp, resolve, invoke, builtin, Builtin.len_, run_underlying' hu, goInt]

theorem run_mm (isMax : Bool) {k : IntKind} : ∀ {ps : List PVal} {vs : List Value} {a : Int} {r : PVal}, Args g ps vs → mmI isMax k a ps = some r →
    ∃ n, r = .int k n ∧ (vs.foldlM (if isMax then Builtin.max2 else Builtin.min2) (.int k a)).run P w = .ok (.int k n) w
  | [], _, a, r, h, e => by
    cases h
    simp [mmI] at e
    exact ⟨a, e.symm, by simp⟩
  | p :: ps, _, a, r, h, e => by
    cases h with
    | cons h1 h2 =>
      rename_i v vs
      unfold mmI at e
      split at e
      · rename_i heq; cases heq
      · rename_i x k' y rest heq
        cases heq
        cases hk : decide (k = k') with
        | false => rw [hk] at e; simp at e
        | true =>
          rw [hk] at e
          obtain rfl : k = k' := of_decide_eq_true hk
          simp only [cond_true] at e
          obtain ⟨n, hn, hrun⟩ := run_mm isMax h2 e
          refine ⟨n, hn, ?_⟩
          rw [h1.vr.inv_int]
          cases isMax with
          | true => simpa [Builtin.max2] using hrun
          | false => simpa [Builtin.min2] using hrun
      · cases e

theorem sim_mm {isMax : Bool} {t : Array TypeId} {xs : Array Operand} {k : IntKind} {a : Int} {ps : List PVal} {r : PVal} (hw : WI g w m) (h : Args g (.int k a :: ps) (xs.toList.map ρ)) (e : mmI isMax k a ps = some r) :
    Res P ρ ⟨dst, .call { callee := .builtin (bif isMax then .max else .min), args := xs, argTypes := t }, ty, pos, after, guard⟩ ca g w m r m := by
  obtain ⟨x0, xr, hxs⟩ : ∃ x0 xr, xs.toList.map ρ = x0 :: xr := by
    cases hx : xs.toList.map ρ with
    | nil => rw [hx] at h; cases h
    | cons a b => exact ⟨a, b, rfl⟩
  rw [hxs] at h
  cases h with
  | cons h1 h2 =>
    obtain ⟨n, rfl, hrun⟩ := run_mm (P := P) (w := w) isMax h2 e
    have h0 := h1.vr.inv_int
    subst h0
    have hm : (xs.map ρ).toList = .int k a :: xr := by simpa using hxs
    cases isMax with
    | true =>
      refine .plain hw (v := .int k n) ?_ (.int _ _) (by simp) (by simp)
      simp only [cond_true, if_true] at hrun ⊢
      simp only [execOp, resolve, Sem.run_bind, Sem.run_pure, Result.andThen_ok, invoke, builtin, Builtin.max_, hm, hrun]
    | false =>
      refine .plain hw (v := .int k n) ?_ (.int _ _) (by simp) (by simp)
      simp only [cond_false, Bool.false_eq_true, if_false] at hrun ⊢
      simp only [execOp, resolve, Sem.run_bind, Sem.run_pure, Result.andThen_ok, invoke, builtin, Builtin.min_, hm, hrun]

theorem sim_assert_no {t xT : TypeId} {x : Operand} {zero : PVal} {d : TypeDesc} {i : TypeInfo} {z : Value} (hw : WI g w m) (hu : P.underlying t = some d) (hd : ∀ ms, d ≠ .interface ms) (hi : P.info? t = some i) (hz : i.zero = some z)
    (hvz : VR g zero z) (hx : VR g .niliface (ρ x)) : Res P ρ ⟨dst, .typeAssert x xT t true, ty, pos, after, guard⟩ ca g w m (.tuple [zero, .bool false]) m := by
  have hzv : (zeroValue t).run P w = .ok z w := by simp [zeroValue, run_typeInfo' hi, hz]
  refine .plain hw (v := .tuple #[z, .bool false]) ?_ (.tuple rfl fun j c e => ?_) (by simp) (by simp)
  · simp only [execOp, Instr.typeAssert, hx.inv_niliface, Sem.run_bind, run_underlying' hu, Result.andThen_ok]
    cases d <;> first | exact absurd rfl (hd _) | simp [hzv]
  · match j, e with
    | 0, e => simp at e; subst e; exact hvz
    | 1, e => simp at e; subst e; exact .bool _
    | j + 2, e => simp at e

theorem sim_assert {t xT u : TypeId} {x : Operand} {zero p : PVal} {d : TypeDesc} {i : TypeInfo} {z : Value} (hw : WI g w m) (hu : P.underlying t = some d) (hd : ∀ ms, d ≠ .interface ms) (hi : P.info? t = some i) (hz : i.zero = some z)
    (hvz : VR g zero z) (hx : VR g (.iface u p) (ρ x)) : Res P ρ ⟨dst, .typeAssert x xT t true, ty, pos, after, guard⟩ ca g w m (bif t.beq u then .tuple [p, .bool true] else .tuple [zero, .bool false]) m := by
  have hzv : (zeroValue t).run P w = .ok z w := by simp [zeroValue, run_typeInfo' hi, hz]
  obtain ⟨v, ex, _, hv⟩ := hx.inv_iface
  cases hb : t.beq u with
  | true =>
    obtain rfl : t = u := Nat.eq_of_beq_eq_true hb
    refine .plain hw (v := .tuple #[v, .bool true]) ?_ (.tuple rfl fun j c e => ?_) (by simp) (by simp)
    · simp only [execOp, Instr.typeAssert, ex, Sem.run_bind, run_underlying' hu, Result.andThen_ok]
      cases d <;> first | exact absurd rfl (hd _) | simp
    · match j, e with
      | 0, e => simp at e; subst e; exact hv
      | 1, e => simp at e; subst e; exact .bool _
      | j + 2, e => simp at e
  | false =>
    have hne : ¬ u = t := fun e => by subst e; simp at hb
    refine .plain hw (v := .tuple #[z, .bool false]) ?_ (.tuple rfl fun j c e => ?_) (by simp) (by simp)
    · simp only [execOp, Instr.typeAssert, ex, Sem.run_bind, run_underlying' hu, Result.andThen_ok]
      cases d <;> first | exact absurd rfl (hd _) | simp [hzv, hne]
    · match j, e with
      | 0, e => simp at e; subst e; exact hvz
      | 1, e => simp at e; subst e; exact .bool _
      | j + 2, e => simp at e

end
end Go.Ev

namespace Go.Ev

theorem bif_some {α : Type} {c : Bool} {x : Option α} {r : α} (h : (bif c then x else none) = some r) : c = true ∧ x = some r := by
  cases c with
  | true => exact ⟨rfl, h⟩
  | false => cases h
theorem bif_none {α : Type} {c : Bool} {x : Option α} {r : α} (h : (bif c then none else x) = some r) : c = false ∧ x = some r := by
  cases c with
  | false => exact ⟨rfl, h⟩
  | true => cases h

section
variable {P : Program} {ρ : Operand → Value} {g : Gh} {w : World} {m : Mem} {dst : Option Tmp} {ty : TypeId} {pos : String} {after : Array Edge} {guard : Option (Nat × Bool)} {ca : Nat → Nat}

theorem run_sliceBound {p : PVal} {v : Value} {i y : Nat} {code : BoundsCode} (hv : VR g p v) (hn : natOf p = some i) (hle : i ≤ y) : (Instr.sliceBound v y code).run P w = .ok i w := by
  obtain ⟨k, rfl⟩ := natOf_eq hn
  simp [Instr.sliceBound, hv.inv_int, asIntOf, hle]

theorem run_sliceBounds {isSlice : Bool} {len cap capA : Nat} {lo hi mx : Option Operand} {ps : List PVal} {l h k : Nat} (ha : Args g ps ((lo.toList ++ (hi.toList ++ mx.toList)).map ρ))
    (hb : boundsOf lo.isSome hi.isSome mx.isSome len capA ps = some (l, h, k)) (hlh : l ≤ h) (hhk : h ≤ k) (hk : k ≤ cap) (hc : h ≤ cap) :
    (Instr.sliceBounds isSlice len cap (lo.map ρ) (hi.map ρ) (mx.map ρ)).run P w = .ok (l, h, if mx.isSome then k else cap) w := by
  cases lo <;> cases hi <;> cases mx <;> simp only [Option.isSome_none, Option.isSome_some] at hb
  case none.none.none =>
    cases ha
    simp [boundsOf] at hb
    obtain ⟨rfl, rfl, rfl⟩ := hb
    simp [Instr.sliceBounds]
  case none.none.some => cases ps <;> simp [boundsOf] at hb
  case none.some.none x =>
    simp at ha
    cases ha with
    | cons h1 h2 =>
      cases h2
      simp [boundsOf] at hb
      obtain ⟨a, hn, rfl, rfl, rfl⟩ := hb
      simp [Instr.sliceBounds, run_sliceBound h1.vr hn hc]
  case none.some.some x y =>
    simp at ha
    cases ha with
    | cons h1 h2 => cases h2 with
      | cons h3 h4 =>
        cases h4
        simp only [boundsOf, Option.bind_eq_some_iff, Option.map_eq_some_iff, Prod.mk.injEq] at hb
        obtain ⟨a, hn, b, hn', rfl, rfl, rfl⟩ := hb
        simp [Instr.sliceBounds, run_sliceBound h3.vr hn' hk, run_sliceBound h1.vr hn hhk]
  case some.none.none x =>
    simp at ha
    cases ha with
    | cons h1 h2 =>
      cases h2
      simp [boundsOf] at hb
      obtain ⟨a, hn, rfl, rfl, rfl⟩ := hb
      simp [Instr.sliceBounds, run_sliceBound h1.vr hn hlh]
  case some.none.some x y => cases ps <;> simp [boundsOf] at hb
  case some.some.none x y =>
    simp at ha
    cases ha with
    | cons h1 h2 => cases h2 with
      | cons h3 h4 =>
        cases h4
        simp only [boundsOf, Option.bind_eq_some_iff, Option.map_eq_some_iff, Prod.mk.injEq] at hb
        obtain ⟨a, hn, b, hn', rfl, rfl, rfl⟩ := hb
        simp [Instr.sliceBounds, run_sliceBound h3.vr hn' hc, run_sliceBound h1.vr hn hlh]
  case some.some.some x y z =>
    simp at ha
    cases ha with
    | cons h1 h2 => cases h2 with
      | cons h3 h4 => cases h4 with
        | cons h5 h6 =>
          cases h6
          simp only [boundsOf, Option.bind_eq_some_iff, Option.map_eq_some_iff, Prod.mk.injEq] at hb
          obtain ⟨a, hn, b, hn', c, hn'', rfl, rfl, rfl⟩ := hb
          simp [Instr.sliceBounds, run_sliceBound h5.vr hn'' hk, run_sliceBound h3.vr hn' hhk, run_sliceBound h1.vr hn hlh]

theorem bounds_no_mx {lo hi : Bool} {len capA : Nat} {ps : List PVal} {l h k : Nat} (hb : boundsOf lo hi false len capA ps = some (l, h, k)) : k = capA := by
  unfold boundsOf at hb
  split at hb <;> simp_all [Option.bind_eq_some_iff, Option.map_eq_some_iff] <;> (try omega)

/-- A slice of a slice. -/
theorem vr_slice {xs : List (List PVal)} {c c' : Cap} {b off cap cap' l h sz : Nat} (hv : VR g (.slice xs c) (.slice (some ⟨b, off, none⟩) xs.length cap)) (hlh : l ≤ h) (hh : h ≤ xs.length) (hcap : h - l ≤ cap')
    (hex : c' = .exact → cap' = h - l) (hsz : headSz sz xs = true) (hz : cap' = 0 ∨ True) : VR g (.slice ((xs.take h).drop l) c') (.slice (some ⟨b, off + l * sz, none⟩) (h - l) cap') := by
  have hlen : ((xs.take h).drop l).length = h - l := by simp; omega
  obtain ⟨a, cap0, e, h1, h2, h3⟩ := hv.inv_slice
  cases e
  by_cases hne : (xs.take h).drop l = []
  · have h0 : h - l = 0 := by rw [← hlen, hne]; rfl
    rw [hne, h0]
    exact .slice0 fun hx => by rw [hex hx, h0]
  · have hxs : xs ≠ [] := by intro e; rw [e] at hne; simp at hne
    obtain ⟨b', off', row, sz', vs, ha, hl, hs, hc, hvv⟩ := h3 hxs
    cases ha
    have : sz' = sz := by
      cases xs with
      | nil => exact (hxs rfl).elim
      | cons x xs =>
        have := (hs x List.mem_cons_self).1
        simp [headSz] at hsz
        omega
    subst this
    rw [← hlen]
    refine .slice sz' (fun i => vs (l + i)) hne hl (by omega) (fun hx => by rw [hex hx, hlen]) (fun x hm => hs x (List.mem_of_mem_take (List.mem_of_mem_drop hm))) (fun i x j c hi hj => ?_) (fun i x j c hi hj => ?_)
    · rw [List.getElem?_drop, List.getElem?_take] at hi
      split at hi
      · have := hc (l + i) x j c hi hj
        rw [show off + l * sz' + i * sz' + j = off + (l + i) * sz' + j by rw [Nat.add_mul]; omega]
        exact this
      · cases hi
    · rw [List.getElem?_drop, List.getElem?_take] at hi
      split at hi
      · exact hvv (l + i) x j c hi hj
      · cases hi

theorem own_slice {xs : List (List PVal)} {b off cap l sz : Nat} (hok : OwnOk0 g (.slice xs .own) (.slice (some ⟨b, off, none⟩) xs.length cap)) (hl : l < xs.length) (hcap : xs.length ≤ cap) (hsz : headSz sz xs = true) :
    OwnOk0 g (.slice (xs.drop l) .own) (.slice (some ⟨b, off + l * sz, none⟩) (xs.length - l) (cap - l)) := by
  simp only [OwnOk0] at hok ⊢
  rcases hok with h | ⟨b', off', row, sz', ha, hlg, hfr, hne, hs, hlen, hfit⟩
  · exact .inl (by omega)
  · cases ha
    have : sz' = sz := by
      cases xs with
      | nil => exact (hne rfl).elim
      | cons x xs =>
        have := hs x List.mem_cons_self
        simp [headSz] at hsz
        omega
    subst this
    refine .inr ⟨b, off + l * sz', row, sz', rfl, hlg, hfr, ?_, fun x hm => hs x (List.mem_of_mem_drop hm), ?_, ?_⟩
    · intro e
      have := congrArg List.length e
      simp at this; omega
    · rw [hlen, List.length_drop]
      have : xs.length = l + (xs.length - l) := by omega
      rw [this, Nat.add_mul]
      simp; omega
    · have : cap = l + (cap - l) := by omega
      rw [this, Nat.add_mul] at hfit
      simp at hfit ⊢; omega

/-- Where a slice's place is told, if it has any room. -/
theorem slice_addr {xs : List (List PVal)} {c : Cap} {v : Value} (h : VR g (.slice xs c) v) (hne : xs ≠ []) : ∃ b off cap, v = .slice (some ⟨b, off, none⟩) xs.length cap ∧ xs.length ≤ cap := by
  obtain ⟨a, cap, e, h1, _, h3⟩ := h.inv_slice
  obtain ⟨b, off, _, _, _, rfl, _⟩ := h3 hne
  exact ⟨b, off, cap, e, h1⟩

theorem evSlice_run {lo hi mx : Option Operand} {ps : List PVal} {p r : PVal} {v : Value} {sz : Nat} {el : TypeId} {inf : TypeInfo} {t : TypeId} (hu : P.underlying t = some (.slice el)) (hi' : P.info? el = some inf) (hs : inf.size = sz)
    (hp : ∀ s, p ≠ .str s) (hv : Arg g p v) (ha : Args g ps ((lo.toList ++ (hi.toList ++ mx.toList)).map ρ)) (he : evSlice sz p lo.isSome hi.isSome mx.isSome ps = some r) :
    ∃ u, (Instr.slice t v (lo.map ρ) (hi.map ρ) (mx.map ρ)).run P w = .ok u w ∧ VR g r u ∧ OwnOk g r u ∧ ∀ b, clV r u b ≤ clV p v b := by
  unfold evSlice at he
  split at he
  · exact absurd rfl (hp _)
  · rename_i xs c
    simp only [Option.bind_eq_some_iff] at he
    obtain ⟨⟨l, h, k⟩, hb, he⟩ := he
    simp only at he
    obtain ⟨hcond, he⟩ := bif_some he
    simp only [Bool.and_eq_true, Nat.ble_eq] at hcond
    obtain ⟨⟨⟨⟨hlh, hhk⟩, hkl⟩, hsz⟩, _⟩ := hcond
    simp only [Option.some.injEq] at he
    obtain ⟨a, cap, rfl, hlc, hex, hfull⟩ := hv.vr.inv_slice
    have hrun := run_sliceBounds (P := P) (w := w) (isSlice := true) (cap := cap) ha hb hlh hhk (by omega) (by omega)
    have hkk : mx.isSome = false → k = xs.length := fun hmx => bounds_no_mx (by rw [hmx] at hb; exact hb)
    -- the model's answer
    have hmodel : ∀ K, (if mx.isSome = true then k else cap) = K → (Instr.slice t (.slice a xs.length cap) (lo.map ρ) (hi.map ρ) (mx.map ρ)).run P w = .ok (.slice (if K = l then a else a.map (·.add (l * sz))) (h - l) (K - l)) w := by
      intro K hK
      simp only [Instr.slice, Sem.run_bind, run_underlying' hu, Result.andThen_ok, hrun, run_sizeOf' hi', hs, hK]
      rfl
    refine ⟨_, hmodel _ rfl, ?_⟩
    generalize hK : (if mx.isSome = true then k else cap) = K
    have hhK : h ≤ K := by rw [← hK]; split <;> omega
    cases hmxb : mx.isSome with
    | true =>
      rw [hmxb] at he hK
      simp only [if_true] at hK
      simp only [cond_true] at he
      subst he
      have hc' : ∀ c', (bif h.beq k then Cap.exact else Cap.no) = c' → (c' = .exact → K - l = h - l) ∧ c' ≠ .own := by
        intro c' e
        cases hbk : h.beq k with
        | true => rw [hbk] at e; simp at e; subst e; have := Nat.eq_of_beq_eq_true hbk; exact ⟨fun _ => by omega, by simp⟩
        | false => rw [hbk] at e; simp at e; subst e; exact ⟨by simp, by simp⟩
      obtain ⟨hc1, hc2⟩ := hc' _ rfl
      refine ⟨?_, OwnOk_of (fun xs e => by injection e with _ e2; exact hc2 e2) (by simp), fun b => by rw [clV_zero_of (fun xs e => by injection e with _ e2; exact hc2 e2) (by simp)]; omega⟩
      by_cases hKl : K = l
      · rw [if_pos hKl]
        have h0 : h - l = 0 := by omega
        have hnil : (xs.take h).drop l = [] := by apply List.eq_nil_of_length_eq_zero; simp; omega
        rw [hnil, h0]
        exact .slice0 fun _ => by omega
      · rw [if_neg hKl]
        by_cases hxs : xs = []
        · subst hxs
          have : h - l = 0 := by simp at hkl; omega
          rw [this]; simp only [List.take_nil, List.drop_nil]
          exact .slice0 fun hx => by rw [hc1 hx]; omega
        · obtain ⟨b, off, cap0, e, _⟩ := slice_addr hv.vr hxs
          cases e
          simp only [Option.map_some, add_plain]
          exact vr_slice hv.vr hlh (by omega) (by omega) (fun hx => hc1 hx) hsz (.inr trivial)
    | false =>
      rw [hmxb] at he hK
      simp only [Bool.false_eq_true, if_false] at hK
      simp only [cond_false] at he
      subst he
      have hk0 := hkk hmxb
      subst hK
      by_cases hfullc : h = xs.length ∧ l < h
      · obtain ⟨hh, hll⟩ := hfullc
        have hbl : Nat.blt l h = true := by simpa using hll
        have hcc : (bif h.beq xs.length && Nat.blt l h then c else Cap.no) = c := by
          have hbe : h.beq xs.length = true := by rw [hh]; simp
          simp only [hbe, hbl, Bool.and_self, cond_true]
        rw [hcc]
        have hxs : xs ≠ [] := by intro e; subst e; simp at hh; omega
        obtain ⟨b, off, cap0, e, _⟩ := slice_addr hv.vr hxs
        cases e
        have hne : ¬ cap = l := by omega
        rw [if_neg hne]
        simp only [Option.map_some, add_plain]
        refine ⟨vr_slice hv.vr hlh (by omega) (by omega) (fun hx => by rw [hex hx]; omega) hsz (.inr trivial), ?_, fun b' => ?_⟩
        · cases c with
          | own =>
            have := own_slice (l := l) (sz := sz) (show OwnOk0 g (.slice xs .own) (.slice (some ⟨b, off, none⟩) xs.length cap) from hv.ok) (by omega) hlc hsz
            simp only [hh, List.take_length]
            exact this
          | _ => simp [OwnOk, OwnOk0]
        · cases c with
          | own =>
            simp only [clV, clV0, claim0, hh]
            by_cases hx : xs.length = cap
            · simp [hx]
            · have : ¬ xs.length - l = cap - l := by omega
              simp [hx, this]
          | _ => simp [clV, clV0, claim0]
      · have hcc : (bif h.beq xs.length && Nat.blt l h then c else Cap.no) = .no := by
          cases hbk : h.beq xs.length with
          | false => simp
          | true =>
            have := Nat.eq_of_beq_eq_true hbk
            have : ¬ l < h := fun hl => hfullc ⟨this, hl⟩
            have hbl : Nat.blt l h = false := by cases hx : Nat.blt l h with | false => rfl | true => exact absurd (by simpa using hx) this
            simp [hbl]
        rw [hcc]
        refine ⟨?_, OwnOk_of (by simp) (by simp), fun b => by rw [clV_zero_of (by simp) (by simp)]; omega⟩
        by_cases hKl : cap = l
        · rw [if_pos hKl]
          have h0 : h - l = 0 := by omega
          have hnil : (xs.take h).drop l = [] := by apply List.eq_nil_of_length_eq_zero; simp; omega
          rw [hnil, h0]
          exact .slice0 (by simp)
        · rw [if_neg hKl]
          by_cases hxs : xs = []
          · subst hxs
            have : h - l = 0 := by simp at hkl; omega
            rw [this]; simp only [List.take_nil, List.drop_nil]
            exact .slice0 (by simp)
          · obtain ⟨b, off, cap0, e, _⟩ := slice_addr hv.vr hxs
            cases e
            simp only [Option.map_some, add_plain]
            exact vr_slice hv.vr hlh (by omega) (by omega) (by simp) hsz (.inr trivial)
  · rename_i sz' id off len cap
    simp only [Option.bind_eq_some_iff] at he
    obtain ⟨⟨l, h, k⟩, hb, he⟩ := he
    obtain ⟨hcond, he'⟩ := bif_some he
    clear he
    simp only [Bool.and_eq_true, Nat.ble_eq] at hcond
    obtain ⟨⟨⟨⟨hlh, hhk⟩, hkc⟩, hsz⟩, _⟩ := hcond
    have hsz' := Nat.eq_of_beq_eq_true hsz
    subst hsz'
    simp only [Option.some.injEq] at he'
    subst he'
    obtain ⟨a, cap', rfl, hlc, hcc, hfull⟩ := hv.vr.inv_oslice
    have hrun := run_sliceBounds (P := P) (w := w) (isSlice := true) (cap := cap') ha hb hlh hhk (by omega) (by omega)
    have hkk : mx.isSome = false → k = cap := fun hmx => bounds_no_mx (by rw [hmx] at hb; exact hb)
    generalize hK : (if mx.isSome = true then k else cap') = K at hrun
    have hkK : k ≤ K ∧ K ≤ cap' := by rw [← hK]; split <;> omega
    refine ⟨.slice (if K = l then a else a.map (·.add (l * sz))) (h - l) (K - l), ?_, .oslice (by omega) (by omega) ?_, OwnOk_of (by simp) (by simp), fun b => by rw [clV_zero_of (by simp) (by simp)]; omega⟩
    · simp only [Instr.slice, Sem.run_bind, run_underlying' hu, Result.andThen_ok, hrun, run_sizeOf' hi', hs]
      rfl
    · obtain ⟨b, hb', hne⟩ := hfull
      refine ⟨b, hb', fun h0 => ?_, ?_⟩
      · obtain rfl := hne.1 (by omega)
        have : ¬ K = l := by omega
        rw [if_neg this]; simp [add_plain]
      · rcases hne.2 with h | h
        · left
          cases hmx : mx.isSome with
          | true => rw [hmx] at hK; simp at hK; omega
          | false => rw [hmx] at hK; have := hkk hmx; simp at hK; omega
        · right
          have h1 : (K - l) * sz + l * sz ≤ cap' * sz := by rw [← Nat.add_mul]; exact Nat.mul_le_mul_right _ (by omega)
          omega
  · cases he

end
end Go.Ev

namespace Go.Ev

/-- A list of cells beside the model's. -/
structure CellsR (g : Gh) (cs : List PVal) (vs : List Value) : Prop where
  len : cs.length = vs.length
  get : ∀ (i : Nat) c, cs[i]? = some c → c.isCell = true ∧ ∃ v, vs[i]? = some v ∧ VR g c v ∧ OwnOk0 g c v

theorem VR.under_len {g : Gh} {p : PVal} {v : Value} (h : VR g p v) (hc : p.isCell = true) : p.under1 g.φ.length = true := by
  have base : ∀ p v, VR g p v → p.isCap = true → p.under0 g.φ.length = true := by
    intro p v h hc
    cases h with
    | ptr e => simp [PVal.under0]; exact (List.getElem?_eq_some_iff.1 e).1
    | oslice h1 h2 h3 => obtain ⟨b, e, _⟩ := h3; simp [PVal.under0]; exact (List.getElem?_eq_some_iff.1 e).1
    | map e => simp [PVal.under0]; exact (List.getElem?_eq_some_iff.1 e).1
    | yield e => simp [PVal.under0]; exact (List.getElem?_eq_some_iff.1 e).1
    | func => simpa [PVal.under0, PVal.flat, PVal.isCap] using hc
    | iface hfl _ => simp [PVal.under0, PVal.flat, hfl]
    | agg => simp [PVal.isCap] at hc
    | tuple => simp [PVal.isCap] at hc
    | fresh => simp [PVal.isCap] at hc
    | _ => simp [PVal.under0, PVal.flat]
  by_cases hf : ∃ f caps, p = .func f caps
  · obtain ⟨f, caps, rfl⟩ := hf
    cases h with
    | func hl hcc hv =>
      simp only [PVal.under1, List.all_eq_true]
      intro c hm
      obtain ⟨i, hi⟩ := List.mem_iff_getElem?.1 hm
      exact base c _ (hv i c hi) (hcc i c hi)
  · have : p.under1 g.φ.length = p.under0 g.φ.length := by cases p <;> first | rfl | exact absurd ⟨_, _, rfl⟩ hf
    rw [this]
    exact base p v h (by cases p <;> first | rfl | exact absurd ⟨_, _, rfl⟩ hf | (simp [PVal.isCell] at hc; done))

theorem PVal.under0_mono {p : PVal} {n k : Nat} (h : p.under0 n = true) (hk : n ≤ k) : p.under0 k = true := by
  cases p <;> simp [PVal.under0] at h ⊢ <;> first | exact h | omega
theorem PVal.under1_mono {p : PVal} {n k : Nat} (h : p.under1 n = true) (hk : n ≤ k) : p.under1 k = true := by
  by_cases hf : ∃ f caps, p = .func f caps
  · obtain ⟨f, caps, rfl⟩ := hf
    simp only [PVal.under1, List.all_eq_true] at h ⊢
    exact fun c hc => PVal.under0_mono (h c hc) hk
  · have : ∀ n, p.under1 n = p.under0 n := fun n => by cases p <;> first | rfl | exact absurd ⟨_, _, rfl⟩ hf
    rw [this] at h ⊢
    exact PVal.under0_mono h hk

theorem cells_under {g : Gh} {w : World} {m : Mem} (hw : WI g w m) {cs : List PVal} {vs : List Value} (h : CellsR g cs vs) : (MObj.cells cs).under (m.next + 1) = true := by
  simp only [MObj.under, List.all_eq_true]
  intro c hm
  obtain ⟨i, hi⟩ := List.mem_iff_getElem?.1 hm
  obtain ⟨hc, v, _, hv, _⟩ := h.get i c hi
  exact PVal.under1_mono (hv.under_len hc) (by rw [hw.len]; omega)

theorem CellsR.putAt {g : Gh} {cs ds : List PVal} {vs us : List Value} {n : Nat} (h : CellsR g cs vs) (h' : CellsR g ds us) (hb : n + ds.length ≤ cs.length) : CellsR g (putAt cs n ds) (putAt vs n us) where
  len := by rw [putAt_length, putAt_length, h.len]
  get := fun i c e => by
    rw [putAt_get cs n ds hb] at e
    rw [putAt_get vs n us (by rw [← h'.len, ← h.len]; exact hb), ← h'.len]
    split at e
    · rename_i hh; rw [if_pos hh]; exact h'.get _ _ e
    · rename_i hh; rw [if_neg hh]; exact h.get _ _ e

theorem valsOk_cells {vs : List Value} {ps : List PVal} (h : valsOk vs ps = true) (g : Gh) : CellsR g ps vs ∧ ∀ b, clCells ps vs b = 0 := by
  obtain ⟨hl, hg⟩ := valsOk_get h
  refine ⟨⟨hl.symm, fun i c e => ?_⟩, fun b => ?_⟩
  · obtain ⟨v, hv, hok⟩ := hg i c e
    obtain ⟨h1, _, _, h4, h5, _⟩ := valOk_vr hok g
    exact ⟨h4, v, hv, h1, h5⟩
  · clear hl hg
    induction vs generalizing ps with
    | nil => cases ps <;> rfl
    | cons v vs ih => cases ps with
      | nil => rfl
      | cons p ps =>
        simp only [valsOk, Bool.and_eq_true] at h
        obtain ⟨_, _, _, _, _, h6, _⟩ := valOk_vr h.1 g
        simp only [clCells, h6, ih h.2]

theorem OwnOk_agg {g : Gh} {cs : List PVal} {vs : Array Value} (h : OwnOk g (.agg cs) (.agg vs)) : ∀ (i : Nat) c, cs[i]? = some c → OwnOk0 g c (vs.getD i undef) := h

/-- A value's cells. -/
theorem cellsOf_ok {g : Gh} {p : PVal} {v : Value} {cs : List PVal} (h : Arg g p v) (e : cellsOf p = some cs) : CellsR g cs v.cells.toList ∧ (∀ b, clCells cs v.cells.toList b = clV p v b) := by
  by_cases ha : ∃ ds, p = .agg ds
  · obtain ⟨ds, rfl⟩ := ha
    simp [cellsOf] at e; subst e
    obtain ⟨vs, rfl, hl, hc, hv⟩ := h.vr.inv_agg
    refine ⟨⟨by simpa [Value.cells] using hl, fun i c hi => ⟨hc c (List.mem_of_getElem? hi), ?_⟩⟩, fun b => rfl⟩
    have hlt : i < vs.size := by have := (List.getElem?_eq_some_iff.1 hi).1; omega
    refine ⟨vs.getD i undef, by simp [Value.cells, hlt], hv i c hi, OwnOk_agg h.ok i c hi⟩
  · have hcell : p.isCell = true := by
      cases p <;> first | rfl | exact absurd ⟨_, rfl⟩ ha | simp [cellsOf] at e
    have he : cs = [p] := by
      cases p <;> first | exact absurd ⟨_, rfl⟩ ha | (simp [cellsOf] at e; try exact e.symm)
    subst he
    obtain ⟨h1, h2⟩ := h.vr.cell hcell
    have hv : v.cells = #[v] := by
      cases v <;> first | rfl | exact absurd rfl (h1 _)
    rw [hv]
    have hcl : ∀ b, clV p v b = clV0 p v b := fun b => by cases p <;> first | rfl | exact absurd ⟨_, rfl⟩ ha
    have hok : OwnOk0 g p v := by
      have := h.ok
      cases p <;> first | exact absurd ⟨_, rfl⟩ ha | exact this
    refine ⟨⟨rfl, fun i c hi => ?_⟩, fun b => by simp [clCells, hcl]⟩
    cases i with
    | zero => simp at hi; subst hi; exact ⟨hcell, v, rfl, h.vr, hok⟩
    | succ i => simp at hi

theorem Arg.nz1 {g : Gh} {p : PVal} {v : Value} (h : Arg g p v) : Arg g p.nz1 v := ⟨h.vr.nz1, OwnOk_nz1 _ _ _⟩
theorem Arg.keep {g : Gh} {p : PVal} {v : Value} (h : Arg g p v) (k : Bool) : Arg g (bif k then p else p.nz1) v ∧ ∀ b, clV (bif k then p else p.nz1) v b ≤ clV p v b := by
  cases k with
  | true => exact ⟨h, fun b => Nat.le_refl _⟩
  | false => exact ⟨h.nz1, fun b => by simp only [cond_false]; rw [clV_nz1]; omega⟩

section
variable {P : Program} {ρ : Operand → Value} {g : Gh} {w : World} {m : Mem} {dst : Option Tmp} {ty : TypeId} {pos : String} {after : Array Edge} {guard : Option (Nat × Bool)} {ca : Nat → Nat}

/-- A new object of cells, and its number. -/
theorem Step.cells {cs : List PVal} {c : Array Value} {el : TypeId} (hw : WI g w m) (h : CellsR g cs c.toList) (hc : ∀ b, clCells cs c.toList b ≤ ca b) (r : PVal) (v : Value)
    (hv : VR (g.app w.heap.size c.size) r v) (h1 : ∀ xs, r ≠ .slice xs .own) (h2 : ∀ cs, r ≠ .agg cs) :
    Step ca g w m r (m.push (.cells cs)) (g.app w.heap.size c.size) (w.alloc (.cells c el)) v :=
  Step.push hw ⟨c, el, by unfold World.alloc; simp, by rw [h.len]; simp, fun i p hp => by
      obtain ⟨a, v, b, d, e⟩ := h.get i p hp
      exact ⟨a, v, by simpa using b, d, e⟩⟩ (cells_under hw h) (fun b => by simp only [clObj, heapCells_alloc]; exact hc b) hv (fun g => OwnOk_of h1 h2) (clV_zero_of h1 h2)

theorem phi_new (hw : WI g w m) : (g.φ ++ [w.heap.size])[m.next]? = some w.heap.size := by
  rw [← hw.len, List.getElem?_append_right (Nat.le_refl _)]; simp

theorem sim_box {t : TypeId} {x : Operand} {p : PVal} {keep : Bool} {cs : List PVal} (hw : WI g w m) (h : Arg g p (ρ x)) (hc : ∀ b, clV p (ρ x) b ≤ ca b) (e : cellsOf (bif keep then p else p.nz1) = some cs) :
    Res P ρ ⟨dst, .box t x, ty, pos, after, guard⟩ ca g w m (.ptr m.next 0) (m.push (.cells cs)) := by
  obtain ⟨ha, hk⟩ := h.keep keep
  obtain ⟨hcs, hcl⟩ := cellsOf_ok ha e
  refine ⟨_, _, .pointer (some ⟨w.heap.size, 0, none⟩), .inl ?_, Step.cells (el := t) hw hcs (fun b => by rw [hcl]; have := hk b; have := hc b; omega) _ _ (.ptr (phi_new hw)) (by simp) (by simp)⟩
  simp [execOp, Instr.box, newVar, newRow]

theorem sim_alloc {t : TypeId} {z : List PVal} {i : TypeInfo} {zv : Value} (hw : WI g w m) (hi : P.info? t = some i) (hz : i.zero = some zv) (hok : valsOk zv.cells.toList z = true) :
    Res P ρ ⟨dst, .alloc t, ty, pos, after, guard⟩ ca g w m (.ptr m.next 0) (m.push (.cells z)) := by
  obtain ⟨hcs, hcl⟩ := valsOk_cells hok g
  refine ⟨_, _, .pointer (some ⟨w.heap.size, 0, none⟩), .inl ?_, Step.cells (el := t) hw hcs (fun b => by rw [hcl]; omega) _ _ (.ptr (phi_new hw)) (by simp) (by simp)⟩
  simp [execOp, Instr.alloc, zeroValue, run_typeInfo' hi, hz, newVar, newRow]

theorem foldl_putAt (off : Nat) (l : Array Value) (cs : Array Value) (h : off + l.size ≤ cs.size) :
    (l.zipIdx.foldl (fun cs (x : Value × Nat) => cs.setIfInBounds (off + x.2) x.1) cs).toList = putAt cs.toList off l.toList := by
  rw [← Array.foldl_toList, Array.toList_zipIdx]
  obtain ⟨h1, h2⟩ := Great.foldl_set off l.toList 0 cs
  apply List.ext_getElem?
  intro k
  rw [putAt_get _ _ _ (by simpa using h)]
  have := h2 k
  simp only [Array.getElem?_toList]
  rw [this]
  by_cases hk : off ≤ k ∧ k < off + l.size
  · rw [if_pos (by simp; omega), if_pos (by simpa using hk)]; simp
  · rw [if_neg (by simp; omega), if_neg (by simpa using hk)]

/-- The parts of an aggregate, one by one. -/
theorem fill_ok {place : Nat → Option (Nat × Nat)} {keep : Bool} : ∀ {parts : List (Nat × Nat)} {ixs : List Nat} {ps : List PVal} {xs : List Value} {z cs : List PVal} {zc : Array Value}, Args g ps xs → ixs.length = parts.length →
    (∀ (j i : Nat) q, ixs[j]? = some i → parts[j]? = some q → place i = some q) → CellsR g z zc.toList → placeParts keep parts ps z = some cs →
    ∃ r, Instr.fill place zc (ixs.zip xs) = some r ∧ CellsR g cs r.toList ∧ ∀ b, clCells cs r.toList b ≤ clCells z zc.toList b + clA ps xs b
  | [], ixs, ps, xs, z, cs, zc, ha, hl, _, hz, e => by
    have : ixs = [] := by cases ixs <;> simp_all
    subst this
    cases ps with
    | nil => simp [placeParts] at e; subst e; exact ⟨zc, by simp [Instr.fill], hz, fun b => by omega⟩
    | cons => simp [placeParts] at e
  | (off, n) :: parts, ixs, ps, xs, z, cs, zc, ha, hl, hp, hz, e => by
    cases ha with
    | nil => simp [placeParts] at e
    | cons h1 h2 =>
      rename_i p v ps xs
      cases ixs with
      | nil => simp at hl
      | cons i ixs =>
        simp only [placeParts, Option.bind_eq_some_iff] at e
        obtain ⟨ds, hds, e⟩ := e
        obtain ⟨hb, e⟩ := bif_some e
        simp only [Bool.and_eq_true, Nat.ble_eq] at hb
        obtain ⟨hn, hbd⟩ := hb
        have hn' := Nat.eq_of_beq_eq_true hn
        obtain ⟨ha', hk⟩ := h1.keep keep
        obtain ⟨hcs, hcl⟩ := cellsOf_ok ha' hds
        have hvn : v.cells.size = n := by have := hcs.len; simp at this; omega
        have hzs : zc.size = z.length := by have := hz.len; simp at this; omega
        have hfold := foldl_putAt off v.cells zc (by omega)
        have hz' : CellsR g (Go.Ev.putAt z off ds) (v.cells.zipIdx.foldl (fun cs (x : Value × Nat) => cs.setIfInBounds (off + x.2) x.1) zc).toList := by
          rw [hfold]; exact hz.putAt hcs (by omega)
        obtain ⟨r, hr, hrc, hrcl⟩ := fill_ok h2 (by simpa using hl) (fun j i' q hi hq => hp (j + 1) i' q (by simpa using hi) (by simpa using hq)) hz' e
        refine ⟨r, ?_, hrc, fun b => ?_⟩
        · simp only [List.zip_cons_cons, Instr.fill, hp 0 i (off, n) rfl rfl]
          rw [if_neg (by simp; omega)]
          exact hr
        · have h3 := hrcl b
          rw [hfold] at h3
          have h4 := clCells_putAt z off ds zc.toList v.cells.toList b (by omega) (by simp; omega) (by rw [hcs.len])
          have h5 := hcl b
          have h6 := hk b
          simp only [clA]
          omega

end
end Go.Ev

