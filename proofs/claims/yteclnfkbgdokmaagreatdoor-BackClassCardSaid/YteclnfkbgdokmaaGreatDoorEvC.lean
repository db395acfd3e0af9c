/- One of the texts that the proof of the law rests on: it has no condition of its own. -/
import Derived.Test.YteclnfkbgdokmaaGreatDoorEvB
import Derived.Laws.AppendOwn
import Derived.Laws.MakeOwn
import Derived.ChangeKeysEq
namespace Go.Ev

def placesOf (P : Program) (fs : List Field) : Option (List (Nat × Nat)) := fs.mapM fun f => (P.info? f.type).map fun i => (f.offset, i.size)
def partsOk (pl : Nat → Option (Nat × Nat)) : List Nat → List (Nat × Nat) → Bool
  | [], [] => true
  | i :: is, q :: qs => (match pl i with | some r => r.1.beq q.1 && r.2.beq q.2 | none => false) && partsOk pl is qs
  | _, _ => false

theorem partsOk_get {pl : Nat → Option (Nat × Nat)} : ∀ {is : List Nat} {qs : List (Nat × Nat)}, partsOk pl is qs = true → is.length = qs.length ∧ ∀ (j i : Nat) q, is[j]? = some i → qs[j]? = some q → pl i = some q
  | [], [], _ => ⟨rfl, fun j i q h => by simp at h⟩
  | i :: is, q :: qs, h => by
    simp only [partsOk, Bool.and_eq_true] at h
    obtain ⟨h1, h2⟩ := h
    obtain ⟨hl, hg⟩ := partsOk_get h2
    refine ⟨by simp [hl], fun j i' q' hi hq => ?_⟩
    cases j with
    | zero =>
      simp at hi hq; subst hi; subst hq
      split at h1
      · rename_i r hr
        simp only [Bool.and_eq_true] at h1
        have a := Nat.eq_of_beq_eq_true h1.1
        have b := Nat.eq_of_beq_eq_true h1.2
        rw [hr]
        obtain ⟨r1, r2⟩ := r; obtain ⟨q1, q2⟩ := q
        simp at a b; subst a; subst b; rfl
      · cases h1
    | succ j => exact hg j i' q' (by simpa using hi) (by simpa using hq)
  | [], _ :: _, h => by simp [partsOk] at h
  | _ :: _, [], h => by simp [partsOk] at h

section
variable {P : Program} {ρ : Operand → Value} {g : Gh} {w : World} {m : Mem} {dst : Option Tmp} {ty : TypeId} {pos : String} {after : Array Edge} {guard : Option (Nat × Bool)} {ca : Nat → Nat}

theorem zip_map (ps : Array (Nat × Operand)) (ρ : Operand → Value) : (ps.map fun (i, x) => (i, ρ x)).toList = (ps.toList.map (·.1)).zip ((ps.toList.map (·.2)).map ρ) := by
  rw [Array.toList_map]
  induction ps.toList with
  | nil => rfl
  | cons p l ih => simp [ih]

theorem agg_of_cells {cs : List PVal} {c : Array Value} (h : CellsR g cs c.toList) : VR g (.agg cs) (.agg c) ∧ OwnOk g (.agg cs) (.agg c) ∧ ∀ b, clV (.agg cs) (.agg c) b = clCells cs c.toList b := by
  have hget : ∀ (i : Nat) p, cs[i]? = some p → p.isCell = true ∧ VR g p (c.getD i undef) ∧ OwnOk0 g p (c.getD i undef) := fun i p e => by
    obtain ⟨hc, v, hv, h1, h2⟩ := h.get i p e
    have : c.getD i undef = v := getD_of (by simpa using hv)
    rw [this]; exact ⟨hc, h1, h2⟩
  refine ⟨.agg (by simpa using h.len) (fun p hm => ?_) (fun i p e => (hget i p e).2.1), fun i p e => (hget i p e).2.2, fun b => rfl⟩
  obtain ⟨i, hi⟩ := List.mem_iff_getElem?.1 hm
  exact (hget i p hi).1

theorem sim_build {t : TypeId} {parts : Array (Nat × Operand)} {keep : Bool} {z cs : List PVal} {qs : List (Nat × Nat)} {ps : List PVal} {i : TypeInfo} {zv : Value} {d : TypeDesc} {pl : Nat → Option (Nat × Nat)} (hw : WI g w m)
    (hi : P.info? t = some i) (hz : i.zero = some zv) (hzok : valsOk zv.cells.toList z = true) (hu : P.underlying t = some d)
    (hd : (∃ fs l, d = .struct fs ∧ placesOf P fs.toList = some l ∧ pl = fun i => l[i]?) ∨ (∃ n e inf, d = .array n e ∧ P.info? e = some inf ∧ pl = fun i => some (i * inf.size, inf.size)))
    (hp : partsOk pl (parts.toList.map (·.1)) qs = true) (ha : Args g ps ((parts.toList.map (·.2)).map ρ)) (hc : ∀ b, clA ps ((parts.toList.map (·.2)).map ρ) b ≤ ca b)
    (e : placeParts keep qs ps z = some cs) : Res P ρ ⟨dst, .build t parts, ty, pos, after, guard⟩ ca g w m (.agg cs) m := by
  obtain ⟨hl, hg⟩ := partsOk_get hp
  obtain ⟨hzc, hzcl⟩ := valsOk_cells hzok g
  obtain ⟨r, hr, hrc, hrcl⟩ := fill_ok ha hl hg hzc e
  rw [← zip_map] at hr
  obtain ⟨h1, h2, h3⟩ := agg_of_cells hrc
  have hzv : (zeroValue t).run P w = .ok zv w := by simp [zeroValue, run_typeInfo' hi, hz]
  refine .pure hw (v := .agg r) ?_ h1 h2 fun b => by rw [h3]; have := hrcl b; have := hzcl b; have := hc b; omega
  rcases hd with ⟨fs, l, rfl, hpl, rfl⟩ | ⟨n, el, inf, rfl, hinf, rfl⟩
  · have hpl' := run_places (P := P) w fs.toList l hpl
    have : Instr.fill (fun i => l[i]?) zv.cells (List.map (fun x => (x.1, ρ x.2)) parts.toList) = some r := by
      rw [Array.toList_map] at hr; exact hr
    simp only [execOp, Instr.build, Sem.run_bind, hzv, Result.andThen_ok, run_underlying' hu]
    simp [Array.mapM_eq_mapM_toList, hpl', this]
  · simp only [execOp, Instr.build, Sem.run_bind, hzv, Result.andThen_ok, run_underlying' hu, run_sizeOf' hinf, hr]
    rfl

/-- Reading a variable. -/
theorem run_loadVar_cells {t : TypeId} {d : TypeDesc} {inf : TypeInfo} {agg : Bool} {n : Nat} (hu : P.underlying t = some d) (hi : P.info? t = some inf) (hs : inf.size = n) (ha : aggOk P t agg = true)
    (hn : agg = true ∨ n = 1) {a : Addr} {xs : List Value} (hl : xs.length = n) (h : ∀ (j : Nat) x, xs[j]? = some x → w.cell? (a.add j) = some x) :
    (loadVar t a).run P w = .ok (if agg then .agg xs.toArray else xs.getD 0 undef) w := by
  have hagg : (isAgg t).run P w = .ok agg w := by
    unfold aggOk at ha
    rw [hu] at ha
    cases d <;> simp at ha <;> simp [isAgg, run_underlying' hu, ha]
  cases agg with
  | true =>
    have := run_loadCells_list (P := P) w a xs h
    rw [hl] at this
    simp [loadVar, hagg, run_sizeOf' hi, hs, this]
  | false =>
    obtain rfl : n = 1 := by simpa using hn
    have h0 : ∃ x, xs = [x] := by
      cases xs with
      | nil => simp at hl
      | cons x xs => cases xs with
        | nil => exact ⟨x, rfl⟩
        | cons => simp at hl
    obtain ⟨x, rfl⟩ := h0
    have hc := h 0 x rfl
    have : a.add 0 = a := by simp [Addr.add]
    rw [this] at hc
    simp [loadVar, hagg, hc]

theorem cell1_ok {agg : Bool} {n : Nat} (hn : agg = true ∨ n = 1) {cs : List PVal} {xs : List Value} (hl : cs.length = n) (hlx : xs.length = n)
    (hc : ∀ (j : Nat) c, cs[j]? = some c → c.isCell = true ∧ ∃ x, xs[j]? = some x ∧ VR g c x) {r : PVal} (hr : cell1 agg cs = some r) :
    Arg g r (if agg then .agg xs.toArray else xs.getD 0 undef) ∧ ∀ b, clV r (if agg then .agg xs.toArray else xs.getD 0 undef) b = 0 := by
  cases agg with
  | true =>
    simp only [cell1, cond_true, Option.some.injEq] at hr
    subst hr
    refine ⟨⟨.agg (by simp; omega) (fun c hm => ?_) (fun i c e => ?_), OwnOk_nz1 g (.agg cs) _⟩, fun b => clV_nz1 (.agg cs) _ b⟩
    · obtain ⟨c', hm', rfl⟩ := List.mem_map.1 hm
      rw [PVal.isCell_nz0]
      obtain ⟨i, hi⟩ := List.mem_iff_getElem?.1 hm'
      exact (hc i c' hi).1
    · rw [List.getElem?_map] at e
      cases hx : cs[i]? with
      | none => rw [hx] at e; cases e
      | some c' =>
        rw [hx] at e; cases e
        obtain ⟨_, x, hx', hv⟩ := hc i c' hx
        have : xs.toArray.getD i undef = x := getD_of (by simpa using hx')
        rw [this]; exact hv.nz0
  | false =>
    simp only [cell1, cond_false] at hr
    split at hr
    · rename_i c
      cases hr
      obtain ⟨hcl, x, hx, hv⟩ := hc 0 c rfl
      have hx0 : xs.getD 0 undef = x := by
        cases xs with
        | nil => simp at hx
        | cons y ys => simp at hx; simp [hx]
      have e1 : c.nz0 = c.nz1 := by cases c <;> first | rfl | simp [PVal.isCell] at hcl
      simp only [Bool.false_eq_true, if_false, hx0]
      rw [e1]
      exact ⟨⟨hv.nz1, OwnOk_nz1 _ _ _⟩, fun b => clV_nz1 _ _ _⟩
    · cases hr

theorem sim_load {t : TypeId} {x : Operand} {p : PVal} {agg : Bool} {n : Nat} {d : TypeDesc} {inf : TypeInfo} {cs : List PVal} {r : PVal} (hw : WI g w m) (hu : P.underlying t = some d) (hi : P.info? t = some inf) (hs : inf.size = n)
    (ha : aggOk P t agg = true) (hn : agg = true ∨ n = 1) (hx : VR g p (ρ x)) (hr : readAt m p n = some cs) (he : cell1 agg cs = some r) :
    Res P ρ ⟨dst, .load t x, ty, pos, after, guard⟩ ca g w m r m := by
  obtain ⟨hl, b, off, ex, xs, hlx, hcell, hget⟩ := read_ok hw hr hx
  have hrun := run_loadVar_cells (w := w) hu hi hs ha hn hlx hcell
  obtain ⟨harg, hcl⟩ := cell1_ok hn hl hlx hget he
  refine .pure hw ?_ harg.vr harg.ok fun b => by rw [hcl]; omega
  simp [execOp, Instr.loadAt, ex, Instr.sureAddr, hrun]

/-- Writing a variable. -/
theorem run_storeVar_cells {t : TypeId} {inf : TypeInfo} (hi : P.info? t = some inf) {b off : Nat} {cur : Array Value} {el : TypeId} {v : Value} (hs : v.cells.size = inf.size)
    (hcur : w.heap[b]? = some (.cells cur el (0, 0))) (hfit : off + v.cells.size ≤ cur.size) (h1 : ∀ x, x ∈ v.cells.toList → x.oneCell' = true) :
    (storeVar t ⟨b, off, none⟩ v).run P w = .ok () (w.setRow b (cur.toList.take off ++ v.cells.toList ++ cur.toList.drop (off + v.cells.toList.length)).toArray) := by
  have := run_storeCells_at (P := P) b off el v.cells.toList 0 cur w hcur (by simpa using hfit) h1
  simp only [storeVar, Sem.run_bind, run_sizeOf' hi, Result.andThen_ok]
  rw [if_neg (by simp [hs])]
  simpa using this

theorem cells_one {cs : List PVal} {vs : List Value} (h : CellsR g cs vs) : ∀ x, x ∈ vs → x.oneCell' = true := by
  intro x hx
  obtain ⟨i, hi⟩ := List.mem_iff_getElem?.1 hx
  have hlt : i < cs.length := by have := (List.getElem?_eq_some_iff.1 hi).1; rw [h.len]; exact this
  obtain ⟨hc, v, hv, hvr, _⟩ := h.get i cs[i] (by simp [List.getElem?_eq_getElem hlt])
  rw [hi] at hv; cases hv
  obtain ⟨h1, h2⟩ := hvr.cell hc
  cases x <;> first | rfl | exact absurd rfl (h1 _) | exact absurd rfl (h2 _)

theorem sim_store {t : TypeId} {a x : Operand} {p q : PVal} {keep : Bool} {n : Nat} {inf : TypeInfo} {cs : List PVal} {m' : Mem} (hw : WI g w m) (hi : P.info? t = some inf) (hs : inf.size = n)
    (ha : VR g p (ρ a)) (hx : Arg g q (ρ x)) (hc : ∀ b, clV q (ρ x) b ≤ ca b) (he : cellsOf (bif keep then q else q.nz1) = some cs) (hn : cs.length = n) (hwr : writeAt m p cs = some m') :
    Res P ρ ⟨dst, .store t a x, ty, pos, after, guard⟩ ca g w m (.tuple []) m' := by
  obtain ⟨hk, hkc⟩ := hx.keep keep
  obtain ⟨hcs, hcl⟩ := cellsOf_ok hk he
  obtain ⟨b, off, cur, el, ea, hcur, hfit, hstep⟩ := write_ok (ca := ca) hw hwr ha (ρ x).cells.toList hcs.len.symm hcs.get (fun b => by rw [hcl]; have := hkc b; have := hc b; omega)
  have hsz : (ρ x).cells.size = inf.size := by have := hcs.len; simp at this; omega
  have hrun := run_storeVar_cells (P := P) (t := t) hi hsz hcur (by simpa using hfit) (cells_one hcs)
  refine ⟨_, _, undef, .inr ⟨?_, rfl⟩, hstep⟩
  simp [execOp, Instr.storeAt, ea, Instr.sureAddr, hrun]

end
end Go.Ev

namespace Go.Ev

section
variable {α : Type}
theorem flatten_len {sz : Nat} : ∀ {xs : List (List α)}, (∀ x, x ∈ xs → x.length = sz) → xs.flatten.length = xs.length * sz
  | [], _ => by simp
  | x :: xs, h => by
    simp only [List.flatten_cons, List.length_append, List.length_cons, Nat.add_mul, Nat.one_mul]
    rw [flatten_len fun y hy => h y (List.mem_cons_of_mem _ hy), h x List.mem_cons_self]; omega
theorem flatten_get {sz : Nat} : ∀ {xs : List (List α)}, (∀ x, x ∈ xs → x.length = sz) → ∀ {i : Nat} {x : List α} {j : Nat} {c : α}, xs[i]? = some x → x[j]? = some c → xs.flatten[i * sz + j]? = some c
  | [], _, i, x, j, c, h, _ => by simp at h
  | y :: xs, h, 0, x, j, c, hx, hc => by
    simp at hx; subst hx
    have : j < y.length := (List.getElem?_eq_some_iff.1 hc).1
    simp only [List.flatten_cons, Nat.zero_mul, Nat.zero_add]
    rw [List.getElem?_append_left this]; exact hc
  | y :: xs, h, i + 1, x, j, c, hx, hc => by
    have hy := h y List.mem_cons_self
    simp only [List.flatten_cons, Nat.add_mul, Nat.one_mul]
    rw [List.getElem?_append_right (by omega)]
    have : i * sz + sz + j - y.length = i * sz + j := by omega
    rw [this]
    exact flatten_get (fun z hz => h z (List.mem_cons_of_mem _ hz)) (by simpa using hx) hc
theorem putAt_right : ∀ (a b : List α) (n : Nat) (c : List α), putAt (a ++ b) (a.length + n) c = a ++ putAt b n c
  | [], b, n, c => by simp
  | x :: a, b, n, c => by
    have : (x :: a).length + n = (a.length + n) + 1 := by simp; omega
    rw [this]
    simp only [List.cons_append, putAt]
    rw [putAt_right a b n c]
theorem flatten_set {sz : Nat} : ∀ {xs : List (List α)}, (∀ x, x ∈ xs → x.length = sz) → ∀ {i : Nat} {c : List α}, i < xs.length → c.length = sz → (xs.set i c).flatten = putAt xs.flatten (i * sz) c
  | [], _, i, c, h, _ => by simp at h
  | y :: xs, h, 0, c, _, hc => by
    have hy := h y List.mem_cons_self
    simp only [List.set_cons_zero, List.flatten_cons, Nat.zero_mul]
    rw [putAt_eq _ _ _ (by simp; omega)]
    simp only [List.take_zero, List.nil_append, Nat.zero_add]
    rw [List.drop_append_of_le_length (by omega), List.drop_of_length_le (by omega)]; simp
  | y :: xs, h, i + 1, c, hi, hc => by
    have hy := h y List.mem_cons_self
    simp only [List.set_cons_succ, List.flatten_cons]
    rw [flatten_set (fun z hz => h z (List.mem_cons_of_mem _ hz)) (by simpa using hi) hc]
    rw [Nat.add_mul, Nat.one_mul, Nat.add_comm, ← hy, putAt_right]
end

/-- Elements beside a list of the model's values. -/
structure ElemsR (g : Gh) (sz : Nat) (ys : List (List PVal)) (us : List Value) : Prop where
  len : us.length = ys.length * sz
  ok : ∀ x, x ∈ ys → x.length = sz ∧ ∀ c, c ∈ x → c.flat = true
  get : ∀ (i : Nat) x (j : Nat) c, ys[i]? = some x → x[j]? = some c → ∃ u, us[i * sz + j]? = some u ∧ VR g c u

theorem flat_cell {c : PVal} (h : c.flat = true) : c.isCell = true := by
  cases c <;> simp [PVal.flat, PVal.isCell] at h ⊢

theorem ElemsR.mono {g g' : Gh} {sz : Nat} {ys : List (List PVal)} {us : List Value} (h : ElemsR g sz ys us) (hg : g.Le g') : ElemsR g' sz ys us :=
  ⟨h.len, h.ok, fun i x j c hi hj => let ⟨u, a, b⟩ := h.get i x j c hi hj; ⟨u, a, b.mono hg⟩⟩

theorem ElemsR.append {g : Gh} {sz : Nat} {xs ys : List (List PVal)} {us vs : List Value} (h : ElemsR g sz xs us) (h' : ElemsR g sz ys vs) : ElemsR g sz (xs ++ ys) (us ++ vs) where
  len := by simp [h.len, h'.len, Nat.add_mul]
  ok := fun x hx => by
    rcases List.mem_append.1 hx with hx | hx
    · exact h.ok x hx
    · exact h'.ok x hx
  get := fun i x j c hi hj => by
    by_cases hlt : i < xs.length
    · rw [List.getElem?_append_left hlt] at hi
      obtain ⟨u, hu, hv⟩ := h.get i x j c hi hj
      exact ⟨u, by rw [List.getElem?_append_left (List.getElem?_eq_some_iff.1 hu).1]; exact hu, hv⟩
    · rw [List.getElem?_append_right (by omega)] at hi
      obtain ⟨u, hu, hv⟩ := h'.get _ x j c hi hj
      refine ⟨u, ?_, hv⟩
      have hle : xs.length * sz ≤ i * sz := Nat.mul_le_mul_right _ (by omega)
      have hsub : (i - xs.length) * sz = i * sz - xs.length * sz := Nat.sub_mul _ _ _
      rw [List.getElem?_append_right (by rw [h.len]; omega), h.len]
      rw [show i * sz + j - xs.length * sz = (i - xs.length) * sz + j by omega]
      exact hu

/-- A slice over a row that is told. -/
theorem vr_of_elems {g : Gh} {sz b off cap : Nat} {xs : List (List PVal)} {us : List Value} {c : Cap} {row : Row} (h : ElemsR g sz xs us) (hl : g.lg b = some row) (hr : ∀ (k : Nat) u, us[k]? = some u → row.cells[off + k]? = some u)
    (hcap : xs.length ≤ cap) (hex : c = .exact → cap = xs.length) : VR g (.slice xs c) (.slice (some ⟨b, off, none⟩) xs.length cap) := by
  by_cases hne : xs = []
  · subst hne; exact .slice0 fun hx => by simpa using hex hx
  · refine .slice sz (fun i j => us.getD (i * sz + j) undef) hne hl hcap hex h.ok (fun i x j c hi hj => ?_) (fun i x j c hi hj => ?_)
    · obtain ⟨u, hu, _⟩ := h.get i x j c hi hj
      have : us.getD (i * sz + j) undef = u := by simp [List.getD, hu]
      rw [this, Nat.add_assoc]
      exact hr _ u hu
    · obtain ⟨u, hu, hv⟩ := h.get i x j c hi hj
      have : us.getD (i * sz + j) undef = u := by simp [List.getD, hu]
      rw [this]; exact hv

theorem elems_of_cells {g : Gh} {sz : Nat} {xs : List (List PVal)} {us : List Value} (hs : ∀ x, x ∈ xs → x.length = sz) (hf : ∀ x, x ∈ xs → ∀ c, c ∈ x → c.flat = true) (h : CellsR g xs.flatten us) : ElemsR g sz xs us where
  len := by rw [← h.len, flatten_len hs]
  ok := fun x hx => ⟨hs x hx, hf x hx⟩
  get := fun i x j c hi hj => by
    obtain ⟨_, v, hv, hvr, _⟩ := h.get _ c (flatten_get hs hi hj)
    exact ⟨v, hv, hvr⟩

section
variable {P : Program} {ρ : Operand → Value} {g : Gh} {w : World} {m : Mem} {dst : Option Tmp} {ty : TypeId} {pos : String} {after : Array Edge} {guard : Option (Nat × Bool)} {ca : Nat → Nat}

/-- The elements of a slice literal, one by one. -/
theorem fillS_ok {sz : Nat} : ∀ {is : List Nat} {ps : List PVal} {vs : List Value} {xs ys : List (List PVal)} {zc : Array Value}, Args g ps vs → (∀ x, x ∈ xs → x.length = sz) → CellsR g xs.flatten zc.toList → setParts sz is ps xs = some ys →
    ∃ r, Instr.fill (fun i => some (i * sz, sz)) zc (is.zip vs) = some r ∧ CellsR g ys.flatten r.toList ∧ (∀ x, x ∈ ys → x.length = sz) ∧ ys.length = xs.length ∧ ∀ b, clCells ys.flatten r.toList b ≤ clCells xs.flatten zc.toList b
  | [], ps, vs, xs, ys, zc, ha, hs, hz, e => by
    cases ps with
    | nil => simp [setParts] at e; subst e; exact ⟨zc, by simp [Instr.fill], hz, hs, rfl, fun b => by omega⟩
    | cons => simp [setParts] at e
  | i :: is, ps, vs, xs, ys, zc, ha, hs, hz, e => by
    cases ha with
    | nil => simp [setParts] at e
    | cons h1 h2 =>
      rename_i p v ps vs
      simp only [setParts, Option.bind_eq_some_iff] at e
      obtain ⟨ds, hds, e⟩ := e
      obtain ⟨hb, e⟩ := bif_some e
      simp only [Bool.and_eq_true] at hb
      obtain ⟨hn, hi⟩ := hb
      have hn' := Nat.eq_of_beq_eq_true hn
      have hi' : i < xs.length := by simpa using hi
      obtain ⟨hcs, hcl⟩ := cellsOf_ok h1.nz1 hds
      have hvn : v.cells.size = sz := by have := hcs.len; simp at this; omega
      have hfl := flatten_len hs
      have hle : i * sz + sz ≤ xs.flatten.length := by
        rw [hfl]
        calc i * sz + sz = (i + 1) * sz := by rw [Nat.add_mul, Nat.one_mul]
          _ ≤ xs.length * sz := Nat.mul_le_mul_right _ hi'
      have hzs : zc.size = xs.flatten.length := by have := hz.len; simp at this ⊢; omega
      have hfold := foldl_putAt (i * sz) v.cells zc (by omega)
      have hset := flatten_set hs hi' hn'
      have hz' : CellsR g (xs.set i ds).flatten (v.cells.zipIdx.foldl (fun cs (x : Value × Nat) => cs.setIfInBounds (i * sz + x.2) x.1) zc).toList := by
        rw [hfold, hset]; exact hz.putAt hcs (by omega)
      have hs' : ∀ x, x ∈ xs.set i ds → x.length = sz := fun x hx => by
        rcases List.mem_or_eq_of_mem_set hx with h | h
        · exact hs x h
        · rw [h]; exact hn'
      obtain ⟨r, hr, hrc, hrs, hrl, hrcl⟩ := fillS_ok h2 hs' hz' e
      refine ⟨r, ?_, hrc, hrs, by rw [hrl]; simp, fun b => ?_⟩
      · simp only [List.zip_cons_cons, Instr.fill]
        rw [if_neg (by simp; omega)]
        exact hr
      · have h3 := hrcl b
        rw [hfold, hset] at h3
        have h4 := clCells_putAt xs.flatten (i * sz) ds zc.toList v.cells.toList b (by omega) (by simp at hzs ⊢; omega) (by rw [hcs.len])
        have h5 := hcl b
        rw [clV_nz1] at h5
        omega

theorem rep_cells {z : List PVal} {zv : Array Value} (h : valsOk zv.toList z = true) (n : Nat) :
    CellsR g (List.replicate n z).flatten ((Array.range (n * z.length)).map (zv[· % zv.size]!)).toList ∧ ∀ b, clCells (List.replicate n z).flatten ((Array.range (n * z.length)).map (zv[· % zv.size]!)).toList b = 0 := by
  obtain ⟨hcs, hcl⟩ := valsOk_cells h g
  have hlen : z.length = zv.size := by have := hcs.len; simpa using this
  have hfl : ((List.replicate n z).flatten).length = n * z.length := by
    rw [flatten_len (sz := z.length) (fun x hx => by rw [List.eq_of_mem_replicate hx])]; simp
  have hget : ∀ (i : Nat) c, (List.replicate n z).flatten[i]? = some c → z[i % z.length]? = some c ∧ i < n * z.length := by
    intro i c e
    have hi : i < n * z.length := by rw [← hfl]; exact (List.getElem?_eq_some_iff.1 e).1
    have hz0 : 0 < z.length := by
      rcases Nat.eq_zero_or_pos z.length with h | h
      · rw [h] at hi; simp at hi
      · exact h
    have hdiv : i / z.length < n := Nat.div_lt_of_lt_mul (by rw [Nat.mul_comm]; exact hi)
    have hmod : i % z.length < z.length := Nat.mod_lt _ hz0
    have := flatten_get (sz := z.length) (xs := List.replicate n z) (fun x hx => by rw [List.eq_of_mem_replicate hx]) (i := i / z.length) (x := z) (j := i % z.length) (c := z[i % z.length]) (by simp [hdiv]) (by simp [hmod])
    rw [Nat.mul_comm, Nat.div_add_mod] at this
    rw [this] at e
    exact ⟨by rw [← e]; simp [hmod], hi⟩
  have hval : ∀ (i : Nat), i < n * z.length → ∀ v, zv.toList[i % z.length]? = some v → ((Array.range (n * z.length)).map (zv[· % zv.size]!)).toList[i]? = some v := by
    intro i hi v hv
    have : (zv[i % zv.size]!) = v := by
      rw [← hlen]
      simp only [Array.getElem?_toList] at hv
      rw [getElem!_def, hv]
    simp [hi, this]
  refine ⟨⟨by simp [hfl], fun i c e => ?_⟩, fun b => ?_⟩
  · obtain ⟨h1, h2⟩ := hget i c e
    obtain ⟨hc, v, hv, hvr, hok⟩ := hcs.get _ c h1
    exact ⟨hc, v, hval i h2 v hv, hvr, hok⟩
  · -- nothing in a zero claims
    have hz : ∀ (cs : List PVal) (vs : List Value), (∀ c, c ∈ cs → ∀ v, clV0 c v b = 0) → clCells cs vs b = 0 := by
      intro cs
      induction cs with
      | nil => intro vs _; rfl
      | cons c cs ih =>
        intro vs h
        cases vs with
        | nil => rfl
        | cons v vs => simp only [clCells]; rw [h c List.mem_cons_self, ih vs fun c hc => h c (List.mem_cons_of_mem _ hc)]
    refine hz _ _ fun c hc v => ?_
    obtain ⟨x, hx, hcx⟩ := List.mem_flatten.1 hc
    rw [List.eq_of_mem_replicate hx] at hcx
    obtain ⟨i, hi⟩ := List.mem_iff_getElem?.1 hcx
    obtain ⟨u, hu, hok⟩ := (valsOk_get h).2 i c hi
    unfold valOk at hok
    split at hok <;> first | (simp [clV0, claim0]; done) | skip
    · rename_i cc
      cases cc <;> simp at hok <;> simp [clV0, claim0]
    · cases hok

end
end Go.Ev

namespace Go.Ev

section
variable {P : Program} {ρ : Operand → Value} {g : Gh} {w : World} {m : Mem} {dst : Option Tmp} {ty : TypeId} {pos : String} {after : Array Edge} {guard : Option (Nat × Bool)} {ca : Nat → Nat}

theorem clV_slice_le (xs : List (List PVal)) (c : Cap) (v : Value) (b : Nat) : clV (.slice xs c) v b ≤ 1 := clV0_le_one _ _ _
theorem clV_slice_exact (xs : List (List PVal)) (v : Value) (b : Nat) : clV (.slice xs .exact) v b = 0 := by
  simp [clV, clV0, claim0]

theorem slice_own_eq {xs : List (List PVal)} {a : Option Addr} {len cap : Nat} (h : len = cap) (b : Nat) (c : Cap) : clV (.slice xs c) (.slice a len cap) b = 0 := by
  cases c <;> cases a <;> simp [clV, clV0, claim0, h]

/-- A new row of values, all told, and the slice over it. -/
theorem Step.newSlice {w' : World} {sz : Nat} {xs : List (List PVal)} {c : Array Value} {el : TypeId} {us : List Value} {cap : Nat} {k : Cap} (hw : WI g w m)
    (hh : w'.heap = w.heap.push (.cells c el)) (hos : w'.os = w.os ∧ w'.output = w.output ∧ w'.tape = w.tape) (hp : us <+: c.toList) (he : ElemsR g sz xs us) (hcap : xs.length ≤ cap) (hex : k = .exact → cap = xs.length)
    (hown : k = .own → xs ≠ [] ∧ cap * sz ≤ c.size) :
    Step ca g w m (.slice xs k) m (g.tell w.heap.size ⟨us, c.size, el, true⟩) w' (.slice (some ⟨w.heap.size, 0, none⟩) xs.length cap) := by
  have hle := Gh.tell_new (row := ⟨us, c.size, el, true⟩) hw.none_new
  have hlg : (g.tell w.heap.size ⟨us, c.size, el, true⟩).lg w.heap.size = some ⟨us, c.size, el, true⟩ := by simp [Gh.tell]
  refine Step.newRow hw hh hos hp (vr_of_elems (he.mono hle) hlg (fun k u hu => by simpa using hu) hcap hex) ?_ (fun b hb => ?_) (fun b => clV_slice_le _ _ _ _)
  · cases k with
    | own =>
      obtain ⟨h1, h2⟩ := hown rfl
      exact .inr ⟨w.heap.size, 0, _, sz, rfl, hlg, rfl, h1, fun x hx => (he.ok x hx).1, by simp [he.len], by simpa using h2⟩
    | _ => simp [OwnOk, OwnOk0]
  · have : clV (.slice xs k) (.slice (some ⟨w.heap.size, 0, none⟩) xs.length cap) b = 0 := by
      have hne : ¬ w.heap.size = b := by omega
      cases k <;> simp [clV, clV0, claim0, hne]
    omega

theorem parts_zip (ps : Array (Nat × Operand)) (ρ : Operand → Value) : ((ps.map fun (i, x) => (i, ρ x)).toList) = (ps.toList.map (·.1)).zip ((ps.toList.map (·.2)).map ρ) := zip_map ps ρ

theorem sim_mkslice {t el : TypeId} {n sz : Nat} {parts : Array (Nat × Operand)} {z : List PVal} {ps : List PVal} {xs : List (List PVal)} {i : TypeInfo} {zv : Value} (hw : WI g w m) (hu : P.underlying t = some (.slice el))
    (hi : P.info? el = some i) (hs : i.size = sz) (hz : i.zero = some zv) (hzok : valsOk zv.cells.toList z = true) (hzl : z.length = sz) (hsmall : n * sz ≤ 2 ^ 24) (hpos : sz ≠ 0)
    (ha : Args g ps ((parts.toList.map (·.2)).map ρ)) (e : setParts sz (parts.toList.map (·.1)) ps (List.replicate n z) = some xs) (hf : xs.all (fun c => c.all PVal.flat) = true) :
    Res P ρ ⟨dst, .buildSlice t n parts, ty, pos, after, guard⟩ ca g w m (.slice xs .exact) m := by
  obtain ⟨hzc, hzcl⟩ := rep_cells (g := g) hzok n
  obtain ⟨r, hr, hrc, hrs, hrl, _⟩ := fillS_ok ha (fun x hx => by rw [List.eq_of_mem_replicate hx, hzl]) hzc e
  rw [← zip_map] at hr
  have hxl : xs.length = n := by rw [hrl]; simp
  have hflat : ∀ x, x ∈ xs → ∀ c, c ∈ x → c.flat = true := fun x hx c hc => by
    rw [List.all_eq_true] at hf
    exact List.all_eq_true.1 (hf x hx) c hc
  have hel := elems_of_cells hrs hflat hrc
  refine ⟨_, w.alloc (.cells r el), .slice (some ⟨w.heap.size, 0, none⟩) xs.length n, .inl ?_, Step.newSlice (us := r.toList) hw (by rfl) ⟨rfl, rfl, rfl⟩ (List.prefix_refl _) hel (by omega) (fun _ => hxl.symm) (by simp)⟩
  have hzv : (zeroValue el).run P w = .ok zv w := by simp [zeroValue, run_typeInfo' hi, hz]
  rw [hzl] at hr
  by_cases hn : n = 0
  · subst hn
    have hps : parts.map (fun (i, x) => (i, ρ x)) = #[] := by
      -- a literal of no places has no parts
      have : parts.toList.map (·.1) = [] := by
        cases hp : parts.toList.map (·.1) with
        | nil => rfl
        | cons a b =>
          rw [hp] at e
          cases ps with
          | nil => simp [setParts] at e
          | cons q qs =>
            simp only [setParts, Option.bind_eq_some_iff] at e
            obtain ⟨ds, _, e⟩ := e
            obtain ⟨hb, _⟩ := bif_some e
            simp at hb
      have h2 : parts.toList = [] := by simpa using this
      have : parts = #[] := by cases parts; simp_all
      rw [this]; simp
    have hr0 : r = #[] := by
      have := hrc.len
      have hx0 : xs = [] := List.eq_nil_of_length_eq_zero hxl
      rw [hx0] at this
      simp only [List.flatten_nil, List.length_nil] at this
      have h0 : r.size = 0 := by simpa using this.symm
      exact Array.eq_empty_of_size_eq_zero h0
    subst hr0
    simp only [execOp, Instr.buildSlice, Sem.run_bind, run_underlying' hu, Result.andThen_ok, run_sizeOf' hi, hs, Nat.zero_mul]
    rw [hps, hxl]
    have h0 : ∀ f : Nat → Value, (Array.range 0).map f = #[] := fun f => Array.eq_empty_of_size_eq_zero (by simp)
    simp only [h0]
    simp [Instr.fill, newRow]
  · have hnz : n * sz ≠ 0 := Nat.mul_ne_zero hn hpos
    have hlt : ¬ n * sz > 2 ^ 24 := by omega
    simp only [execOp, Instr.buildSlice, Sem.run_bind, run_underlying' hu, Result.andThen_ok, run_sizeOf' hi, hs]
    rw [if_neg hlt, if_neg hnz]
    simp only [Sem.run_bind, Sem.run_pure, hzv, Result.andThen_ok, hr]
    simp [newRow, hxl]

theorem sim_mkslice_obj {t el : TypeId} {n sz : Nat} {parts : Array (Nat × Operand)} {z : List PVal} {ps : List PVal} {xs : List (List PVal)} {i : TypeInfo} {zv : Value} (hw : WI g w m) (hu : P.underlying t = some (.slice el))
    (hi : P.info? el = some i) (hs : i.size = sz) (hz : i.zero = some zv) (hzok : valsOk zv.cells.toList z = true) (hzl : z.length = sz) (hsmall : n * sz ≤ 2 ^ 24) (hn : n * sz ≠ 0)
    (ha : Args g ps ((parts.toList.map (·.2)).map ρ)) (e : setParts sz (parts.toList.map (·.1)) ps (List.replicate n z) = some xs) :
    Res P ρ ⟨dst, .buildSlice t n parts, ty, pos, after, guard⟩ ca g w m (.oslice sz m.next 0 n n) (m.push (.cells xs.flatten)) := by
  obtain ⟨hzc, hzcl⟩ := rep_cells (g := g) hzok n
  obtain ⟨r, hr, hrc, hrs, hrl, hrcl⟩ := fillS_ok ha (fun x hx => by rw [List.eq_of_mem_replicate hx, hzl]) hzc e
  rw [← zip_map] at hr
  refine ⟨_, w.alloc (.cells r el), .slice (some ⟨w.heap.size, 0, none⟩) n n, .inl ?_, Step.cells (el := el) hw hrc (fun b => by have := hrcl b; have := hzcl b; omega) _ _
    (.oslice (Nat.le_refl _) (Nat.le_refl _) ⟨w.heap.size, phi_new hw, fun _ => rfl, .inl rfl⟩) (by simp) (by simp)⟩
  have hzv : (zeroValue el).run P w = .ok zv w := by simp [zeroValue, run_typeInfo' hi, hz]
  rw [hzl] at hr
  have hlt : ¬ n * sz > 2 ^ 24 := by omega
  simp only [execOp, Instr.buildSlice, Sem.run_bind, run_underlying' hu, Result.andThen_ok, run_sizeOf' hi, hs]
  rw [if_neg hlt, if_neg hn]
  simp only [Sem.run_bind, Sem.run_pure, hzv, Result.andThen_ok, hr]
  simp [newRow]

end
end Go.Ev

namespace Go.Ev

theorem pieces_len {sz n : Nat} {cs : List PVal} : (pieces sz n cs).length = n := by
  induction n generalizing cs with
  | zero => rfl
  | succ n ih => simp [pieces, ih]
theorem pieces_get {sz : Nat} : ∀ {n : Nat} {cs : List PVal} {i : Nat} {x : List PVal}, (pieces sz n cs)[i]? = some x → i < n ∧ x = (cs.drop (i * sz)).take sz
  | 0, cs, i, x, h => by simp [pieces] at h
  | n + 1, cs, 0, x, h => by simp [pieces] at h; subst h; exact ⟨by omega, by simp⟩
  | n + 1, cs, i + 1, x, h => by
    simp only [pieces, List.getElem?_cons_succ] at h
    obtain ⟨h1, h2⟩ := pieces_get h
    refine ⟨by omega, ?_⟩
    rw [h2, List.drop_drop]
    congr 2
    rw [Nat.add_mul, Nat.one_mul]; omega

section
variable {P : Program} {ρ : Operand → Value} {g : Gh} {w : World} {m : Mem} {dst : Option Tmp} {ty : TypeId} {pos : String} {after : Array Edge} {guard : Option (Nat × Bool)} {ca : Nat → Nat}

theorem run_firstCells_list {sz n : Nat} {a : Addr} {l c : Nat} {us : List Value} (hl : us.length = n * sz) (h : ∀ (j : Nat) x, us[j]? = some x → w.cell? (a.add j) = some x) :
    (Builtin.firstCells sz n (.slice (some a) l c)).run P w = .ok us.toArray w := by
  have := run_loadCells_list (P := P) w a us h
  simp only [Builtin.firstCells]
  rw [← hl]; exact this

theorem run_firstCells_all {sz N : Nat} {a : Addr} {l c : Nat} {us : List Value} (hl : us.length = N * sz) (h : ∀ (j : Nat) x, us[j]? = some x → w.cell? (a.add j) = some x) {n : Nat} (hn : n ≤ N) :
    (Builtin.firstCells sz n (.slice (some a) l c)).run P w = .ok (us.take (n * sz)).toArray w := by
  have := Nat.mul_le_mul_right sz hn
  refine run_firstCells_list (by simp; omega) fun j x hj => ?_
  have hlt : j < n * sz := by have := (List.getElem?_eq_some_iff.1 hj).1; simp at this; omega
  rw [List.getElem?_take_of_lt hlt] at hj
  exact h j x hj

/-- Cells of a list of pieces. -/
theorem elems_of_get {sz n : Nat} {cs : List PVal} {us : List Value} (hl : cs.length = n * sz) (hlu : us.length = n * sz) (hf : ∀ c, c ∈ cs → c.flat = true) (h : ∀ (j : Nat) c, cs[j]? = some c → ∃ u, us[j]? = some u ∧ VR g c u) :
    ElemsR g sz (pieces sz n cs) us where
  len := by rw [pieces_len, hlu]
  ok := fun x hx => by
    obtain ⟨i, hi⟩ := List.mem_iff_getElem?.1 hx
    obtain ⟨h1, rfl⟩ := pieces_get hi
    have hle : i * sz + sz ≤ cs.length := by
      rw [hl]
      calc i * sz + sz = (i + 1) * sz := by rw [Nat.add_mul, Nat.one_mul]
        _ ≤ n * sz := Nat.mul_le_mul_right _ h1
    exact ⟨by simp; omega, fun c hc => hf c (List.mem_of_mem_drop (List.mem_of_mem_take hc))⟩
  get := fun i x j c hi hj => by
    obtain ⟨h1, rfl⟩ := pieces_get hi
    have hjs : j < sz := by have := (List.getElem?_eq_some_iff.1 hj).1; simp at this; omega
    rw [List.getElem?_take_of_lt hjs, List.getElem?_drop] at hj
    exact h _ c hj

theorem elems_ok' {sz : Nat} {p : PVal} {v : Value} {ys : List (List PVal)} (hw : WI g w m) (hsz : sz ≠ 0) (hv : VR g p v) (he : elems m sz p = some ys) :
    ∃ us, ElemsR g sz ys us ∧ (Builtin.lenOf v).run P w = .ok ys.length w ∧ ∀ n, n ≤ ys.length → (Builtin.firstCells sz n v).run P w = .ok (us.take (n * sz)).toArray w := by
  unfold elems at he
  split at he
  · rename_i xs c
    obtain ⟨hh, he⟩ := bif_some he
    simp only [Option.some.injEq] at he
    subst he
    obtain ⟨a, cap, rfl, hcap, _, hfull⟩ := hv.inv_slice
    by_cases hne : xs = []
    · subst hne
      refine ⟨[], ⟨by simp, by simp, by simp⟩, by simp [Builtin.lenOf], fun n hn => ?_⟩
      cases a with
      | none => simp [Builtin.firstCells]
      | some a => exact run_firstCells_all (N := 0) (us := []) (by simp) (by simp) hn
    · obtain ⟨b, off, row, sz', vs, rfl, hl, hs, hc, hvv⟩ := hfull hne
      have : sz' = sz := by
        cases xs with
        | nil => exact (hne rfl).elim
        | cons x xs =>
          have := (hs x List.mem_cons_self).1
          simp [headSz] at hh
          omega
      subst this
      have hex : ∀ k, k < xs.length * sz' → ∃ x c, xs[k / sz']? = some x ∧ x[k % sz']? = some c := fun k hk => by
        have h1 : k / sz' < xs.length := Nat.div_lt_of_lt_mul (by rw [Nat.mul_comm]; exact hk)
        have h2 : k % sz' < sz' := Nat.mod_lt _ (by omega)
        have h3 := (hs xs[k / sz'] (List.getElem_mem _)).1
        exact ⟨xs[k / sz'], xs[k / sz'][k % sz'], by simp, by simp⟩
      have hdm : ∀ k : Nat, k / sz' * sz' + k % sz' = k := fun k => by rw [Nat.mul_comm]; exact Nat.div_add_mod k sz'
      refine ⟨(List.range (xs.length * sz')).map fun k => vs (k / sz') (k % sz'), ⟨by simp, hs, fun i x j c hi hj => ?_⟩, by simp [Builtin.lenOf], ?_⟩
      · have hj' : j < sz' := by rw [← (hs x (List.mem_of_getElem? hi)).1]; exact (List.getElem?_eq_some_iff.1 hj).1
        have hi' : i < xs.length := (List.getElem?_eq_some_iff.1 hi).1
        have hlt : i * sz' + j < xs.length * sz' := by
          calc i * sz' + j < i * sz' + sz' := by omega
            _ = (i + 1) * sz' := by rw [Nat.add_mul, Nat.one_mul]
            _ ≤ xs.length * sz' := Nat.mul_le_mul_right _ hi'
        refine ⟨vs i j, ?_, hvv i x j c hi hj⟩
        have e1 : (i * sz' + j) / sz' = i := by
          rw [Nat.mul_comm, Nat.mul_add_div (by omega), Nat.div_eq_of_lt hj']; omega
        have e2 : (i * sz' + j) % sz' = j := by
          rw [Nat.mul_comm, Nat.mul_add_mod, Nat.mod_eq_of_lt hj']
        simp [hlt, e1, e2]
      · refine fun n hn => run_firstCells_all (by simp) (fun k u hu => ?_) hn
        have hk : k < xs.length * sz' := by have := (List.getElem?_eq_some_iff.1 hu).1; simpa using this
        simp [List.getElem?_map, List.getElem?_range hk] at hu
        subst hu
        obtain ⟨x, c, hx, hcx⟩ := hex k hk
        have h1 := hc _ x _ c hx hcx
        obtain ⟨cc, fz, hcc, _, hp, _⟩ := hw.lg _ _ hl
        rw [add_plain, cell_of_heap hcc]
        have h2 := pre_get hp h1
        rw [Nat.add_assoc, hdm] at h2
        simpa using h2
  · rename_i sz' id off len cap
    obtain ⟨hb, he1⟩ := bif_some he
    clear he
    obtain rfl : sz = sz' := Nat.eq_of_beq_eq_true hb
    split at he1
    · rename_i cs hget
      obtain ⟨hb2, he⟩ := bif_some he1
      simp only [Bool.and_eq_true, Nat.ble_eq] at hb2
      obtain ⟨hfit, hflat⟩ := hb2
      simp only [Option.some.injEq] at he
      subst he
      obtain ⟨a, cap', rfl, h1, h2, b, hbb, hne, _⟩ := hv.inv_oslice
      obtain ⟨b', hb', _, ⟨c, el, hc, hlen, hcells⟩⟩ := hw.get hget
      obtain rfl : b = b' := by rw [hbb] at hb'; exact Option.some.inj hb'
      rw [pieces_len]
      -- the pieces of all that follows are those of these cells alone
      have hpe : pieces sz len ((cs.drop off).map PVal.nz0) = pieces sz len (((cs.drop off).take (len * sz)).map PVal.nz0) := by
        apply List.ext_getElem?
        intro i
        cases h1 : (pieces sz len ((cs.drop off).map PVal.nz0))[i]? with
        | none =>
          have : len ≤ i := by
            have := List.getElem?_eq_none_iff.1 h1; rw [pieces_len] at this; exact this
          rw [List.getElem?_eq_none_iff.2 (by rw [pieces_len]; exact this)]
        | some x =>
          obtain ⟨hi, hx⟩ := pieces_get h1
          have h2 : i < (pieces sz len (((cs.drop off).take (len * sz)).map PVal.nz0)).length := by rw [pieces_len]; exact hi
          obtain ⟨y, hy⟩ : ∃ y, (pieces sz len (((cs.drop off).take (len * sz)).map PVal.nz0))[i]? = some y := ⟨_, List.getElem?_eq_getElem h2⟩
          obtain ⟨_, hy'⟩ := pieces_get hy
          rw [hy, hx, hy']
          congr 1
          rw [← List.map_drop, ← List.map_drop, ← List.map_take, ← List.map_take]
          congr 1
          rw [List.drop_take, List.take_take]
          congr 1
          have : i * sz + sz ≤ len * sz := by
            calc i * sz + sz = (i + 1) * sz := by rw [Nat.add_mul, Nat.one_mul]
              _ ≤ len * sz := Nat.mul_le_mul_right _ hi
          omega
      rw [hpe]
      refine ⟨(c.toList.drop off).take (len * sz), elems_of_get (by simp; omega) (by simp; omega) (fun x hx => ?_) (fun j x hj => ?_), by simp [Builtin.lenOf], ?_⟩
      · obtain ⟨y, hy, rfl⟩ := List.mem_map.1 hx
        have := List.all_eq_true.1 hflat y hy
        cases y <;> simp [PVal.nz0, PVal.flat] at this ⊢ <;> exact this
      · have hj' : j < len * sz := by have := (List.getElem?_eq_some_iff.1 hj).1; simp at this; omega
        rw [List.getElem?_map, List.getElem?_take_of_lt hj', List.getElem?_drop] at hj
        cases hx : cs[off + j]? with
        | none => rw [hx] at hj; cases hj
        | some y =>
          rw [hx] at hj; cases hj
          obtain ⟨_, u, hu, hvr, _⟩ := hcells _ _ hx
          refine ⟨u, ?_, hvr.nz0⟩
          rw [List.getElem?_take_of_lt hj', List.getElem?_drop]
          simpa using hu
      · intro n hn
        by_cases hl0 : len = 0
        · subst hl0
          obtain rfl : n = 0 := by omega
          cases a with
          | none => simp [Builtin.firstCells]
          | some a =>
            have := run_firstCells_all (P := P) (w := w) (sz := sz) (N := 0) (a := a) (l := 0) (c := cap') (us := []) (by simp) (by simp) (Nat.le_refl 0)
            simpa using this
        · obtain rfl := hne (by omega)
          refine run_firstCells_all (N := len) (by simp; omega) (fun k u hu => ?_) hn
          have hk : k < len * sz := by have := (List.getElem?_eq_some_iff.1 hu).1; simp at this; omega
          rw [List.getElem?_take_of_lt hk, List.getElem?_drop] at hu
          rw [add_plain, cell_of_heap hc]
          simpa using hu
    · cases he1
  · rename_i s
    obtain ⟨hb, he1⟩ := bif_some he
    clear he
    have he := he1
    clear he1
    obtain rfl : sz = 1 := Nat.eq_of_beq_eq_true hb
    simp only [Option.some.injEq] at he
    subst he
    have ev := hv.inv_str
    subst ev
    have hsz' : (⟨s.toArray⟩ : ByteArray).size = s.length := rfl
    refine ⟨s.map fun b => .int .u8 b.toNat, ⟨by simp, fun x hx => ?_, fun i x j c hi hj => ?_⟩, by simp [Builtin.lenOf, hsz'], ?_⟩
    · obtain ⟨b, _, rfl⟩ := List.mem_map.1 hx
      exact ⟨rfl, fun c hc => by simp at hc; subst hc; rfl⟩
    · rw [List.getElem?_map] at hi
      cases hx : s[i]? with
      | none => rw [hx] at hi; cases hi
      | some b =>
        rw [hx] at hi; cases hi
        cases j with
        | zero => simp at hj; subst hj; exact ⟨.int .u8 b.toNat, by simp [hx], .int _ _⟩
        | succ j => simp at hj
    · intro n hn
      have he : (⟨s.toArray⟩ : ByteArray).extract 0 n = ⟨(s.take n).toArray⟩ := by
        apply ByteArray.ext
        simp [ByteArray.data_extract]
      simp only [Builtin.firstCells, he]
      simp [List.map_take]
  · cases he


theorem elems_ok {sz : Nat} {p : PVal} {v : Value} {ys : List (List PVal)} (hw : WI g w m) (hsz : sz ≠ 0) (hv : VR g p v) (he : elems m sz p = some ys) :
    ∃ us, ElemsR g sz ys us ∧ (Builtin.lenOf v).run P w = .ok ys.length w ∧ (Builtin.firstCells sz ys.length v).run P w = .ok us.toArray w := by
  obtain ⟨us, h1, h2, h3⟩ := elems_ok' (P := P) hw hsz hv he
  refine ⟨us, h1, h2, ?_⟩
  rw [h3 _ (Nat.le_refl _), List.take_of_length_le (by rw [h1.len]; exact Nat.le_refl _)]

end
end Go.Ev

/- Appending. -/
namespace Go.Ev

section
variable {P : Program} {ρ : Operand → Value} {g : Gh} {w : World} {m : Mem} {dst : Option Tmp} {ty : TypeId} {pos : String} {after : Array Edge} {guard : Option (Nat × Bool)} {ca : Nat → Nat}

theorem wi_drew (hw : WI g w m) : WI g w.drew m := ⟨hw.lg, hw.len, hw.sorted, hw.bound, fun id o h => by
  obtain ⟨b, h1, h2, h3⟩ := hw.obj id o h
  exact ⟨b, h1, h2, h3.mono ⟨fun _ _ e => e, fun b row e => ⟨row, e, List.prefix_refl _⟩, fun _ _ _ => rfl, rfl⟩ rfl fun p v h _ => h⟩, hw.inj, hw.scope, hw.phi, hw.bsz⟩
theorem clM_drew (k : Nat) : clM g w.drew m k = clM g w m k := clMs_congr (φ := g.φ) (φ' := g.φ) (w := w) (w' := w.drew) (l := m.objs) (fun _ _ _ => ⟨rfl, rfl⟩) k

theorem Step.of_drew {r : PVal} {m' : Mem} {g' : Gh} {w' : World} {v : Value} (h : Step ca g w.drew m r m' g' w' v) : Step ca g w m r m' g' w' v where
  wi := h.wi
  vr := h.vr
  ok := h.ok
  size := h.size
  φ := h.φ
  lgle := h.lgle
  bs := h.bs
  claims := fun b hb => by have := h.claims b hb; rw [clM_drew] at this; exact this
  claims' := h.claims'
  keepLg := fun b row e h0 => h.keepLg b row e (by rw [clM_drew]; exact h0)
  keepBlk := fun b hb h0 h1 => h.keepBlk b hb (by rw [clM_drew]; exact h0) h1
  fresh := h.fresh
  R := (by first | rfl | exact h.R | exact h'.R.trans h.R)
  keepNone := h.keepNone
  os := h.os

theorem run_append_room {t u ty e : TypeId} {i : TypeInfo} {d : TypeDesc} (ht : P.underlying t = some (.slice e)) (hu : P.underlying u = some d) (hd : (∃ e', d = .slice e') ∨ d = .string) (hi : P.info? e = some i)
    {base : Option Addr} {sLen sCap n : Nat} {x : Value} {news : List Value} (hlen : (Builtin.lenOf x).run P w = .ok n w) (hfc : (Builtin.firstCells i.size n x).run P w = .ok news.toArray w)
    (h : sLen + n ≤ sCap) {w' : World} (hst : ∀ a, base = some a → (storeCells (a.add (sLen * i.size)) news).run P w = .ok () w') (hn : base = none → w' = w) :
    (Builtin.append_ #[t, u] ty #[.slice base sLen sCap, x]).run P w = .ok (.slice base (sLen + n) sCap) w' := by
  rcases hd with ⟨e', rfl⟩ | rfl
  all_goals
    cases base with
    | none =>
      obtain rfl := hn rfl
      simp [Builtin.append_, run_underlying' ht, run_underlying' hu, run_sizeOf' hi, hlen, h, hfc]
    | some a =>
      have := hst a rfl
      simp [Builtin.append_, run_underlying' ht, run_underlying' hu, run_sizeOf' hi, hlen, h, hfc, this]

theorem run_append_more {t u ty e : TypeId} {i : TypeInfo} {d : TypeDesc} {z : Value} (ht : P.underlying t = some (.slice e)) (hu : P.underlying u = some d) (hd : (∃ e', d = .slice e') ∨ d = .string) (hi : P.info? e = some i) (hz : i.zero = some z)
    {base : Option Addr} {sLen sCap n : Nat} {x : Value} {olds news : List Value} (hlen : (Builtin.lenOf x).run P w = .ok n w) (hfc : (Builtin.firstCells i.size n x).run P w.drew = .ok news.toArray w.drew)
    (hfo : (Builtin.firstCells i.size sLen (.slice base sLen sCap)).run P w.drew = .ok olds.toArray w.drew)
    (h : sCap < sLen + n) (h32 : sLen + n ≤ 4294967296) (hb : i.bytes ≤ 32768) :
    (Builtin.append_ #[t, u] ty #[.slice base sLen sCap, x]).run P w = .ok (.slice (some ⟨w.heap.size, 0, none⟩) (sLen + n) (grownCap w (sLen + n) sCap e))
      (w.drew.alloc (.cells (olds ++ (news ++ (Builtin.zeroCells z.cells (grownCap w (sLen + n) sCap e - (sLen + n))).toList)).toArray e)) := by
  have hn : ¬ (sLen + n ≤ sCap) := by omega
  have h63' : ¬ (9223372036854775807 < ((sLen : Int) + (n : Int))) := by omega
  have h48 : Builtin.nextslicecap (sLen + n) sCap * i.bytes ≤ 281474976710656 := growslice_fits h (by
    calc (sLen + n) * i.bytes ≤ 4294967296 * 32768 := Nat.mul_le_mul h32 hb
      _ = 140737488355328 := by decide)
  have h48' : ¬ (281474976710656 < Builtin.nextslicecap (sLen + n) sCap * i.bytes) := by omega
  rcases hd with ⟨e', rfl⟩ | rfl
  all_goals
    simp [Builtin.append_, run_underlying' ht, run_underlying' hu, run_sizeOf' hi, run_typeInfo' hi, zeroValue, hz, hlen, hn, h63', h48', Question.forced, hfc, hfo, newRow, grownCap]
    congr 2
    apply Array.ext'
    simp

/-- What a list of elements comes to, in the row it lies in. -/
theorem slice_elems {xs : List (List PVal)} {c : Cap} {v : Value} {sz : Nat} (h : VR g (.slice xs c) v) (hsz : sz ≠ 0) (hne : xs ≠ []) (hh : headSz sz xs = true) :
    ∃ b off cap row us, v = .slice (some ⟨b, off, none⟩) xs.length cap ∧ xs.length ≤ cap ∧ (c = .exact → cap = xs.length) ∧ g.lg b = some row ∧ ElemsR g sz xs us ∧ ∀ (k : Nat) u, us[k]? = some u → row.cells[off + k]? = some u := by
  obtain ⟨a, cap, rfl, hcap, hex', hfull⟩ := h.inv_slice
  obtain ⟨b, off, row, sz', vs, rfl, hl, hs, hc, hvv⟩ := hfull hne
  have : sz' = sz := by
    cases xs with
    | nil => exact (hne rfl).elim
    | cons x xs =>
      have := (hs x List.mem_cons_self).1
      simp [headSz] at hh
      omega
  subst this
  have hex : ∀ k, k < xs.length * sz' → ∃ x c, xs[k / sz']? = some x ∧ x[k % sz']? = some c := fun k hk => by
    have h1 : k / sz' < xs.length := Nat.div_lt_of_lt_mul (by rw [Nat.mul_comm]; exact hk)
    have h2 : k % sz' < sz' := Nat.mod_lt _ (by omega)
    have h3 := (hs xs[k / sz'] (List.getElem_mem _)).1
    exact ⟨xs[k / sz'], xs[k / sz'][k % sz'], by simp, by simp⟩
  have hdm : ∀ k : Nat, k / sz' * sz' + k % sz' = k := fun k => by rw [Nat.mul_comm]; exact Nat.div_add_mod k sz'
  refine ⟨b, off, cap, row, (List.range (xs.length * sz')).map fun k => vs (k / sz') (k % sz'), rfl, hcap, hex', hl, ⟨by simp, hs, fun i x j c hi hj => ?_⟩, fun k u hu => ?_⟩
  · have hj' : j < sz' := by rw [← (hs x (List.mem_of_getElem? hi)).1]; exact (List.getElem?_eq_some_iff.1 hj).1
    have hi' : i < xs.length := (List.getElem?_eq_some_iff.1 hi).1
    have hlt : i * sz' + j < xs.length * sz' := by
      calc i * sz' + j < i * sz' + sz' := by omega
        _ = (i + 1) * sz' := by rw [Nat.add_mul, Nat.one_mul]
        _ ≤ xs.length * sz' := Nat.mul_le_mul_right _ hi'
    refine ⟨vs i j, ?_, hvv i x j c hi hj⟩
    have e1 : (i * sz' + j) / sz' = i := by
      rw [Nat.mul_comm, Nat.mul_add_div (by omega), Nat.div_eq_of_lt hj']; omega
    have e2 : (i * sz' + j) % sz' = j := by
      rw [Nat.mul_comm, Nat.mul_add_mod, Nat.mod_eq_of_lt hj']
    simp [hlt, e1, e2]
  · have hk : k < xs.length * sz' := by have := (List.getElem?_eq_some_iff.1 hu).1; simpa using this
    simp [List.getElem?_map, List.getElem?_range hk] at hu
    subst hu
    obtain ⟨x, c, hx, hcx⟩ := hex k hk
    have h1 := hc _ x _ c hx hcx
    rw [Nat.add_assoc, hdm] at h1
    exact h1

theorem lg_prefix {b : Nat} {row : Row} (hw : WI g w m) (hl : g.lg b = some row) : ∃ cur fz, w.heap[b]? = some (.cells cur row.elem fz) ∧ cur.size = row.size ∧ (row.free = true → fz = (0, 0)) ∧ ∀ (k : Nat) u, row.cells[k]? = some u → cur[k]? = some u := by
  obtain ⟨c, fz, h1, h2, h3, h4⟩ := hw.lg b row hl
  exact ⟨c, fz, h1, h2, h4, fun k u e => by simpa using pre_get h3 e⟩

theorem run_first_told {b off n l c sz : Nat} {row : Row} {us : List Value} (hw : WI g w m) (hl : g.lg b = some row) (hu : ∀ (k : Nat) u, us[k]? = some u → row.cells[off + k]? = some u) (hn : us.length = n * sz) :
    (Builtin.firstCells sz n (.slice (some ⟨b, off, none⟩) l c)).run P w = .ok us.toArray w := by
  obtain ⟨cur, fz, h1, _, _, h2⟩ := lg_prefix hw hl
  exact run_firstCells_list hn fun k u e => by rw [add_plain, cell_of_heap h1]; exact h2 _ _ (hu k u e)

/-- The cells of elements, no right to grow left in them. -/
theorem elems_cells {sz : Nat} {ys : List (List PVal)} {us : List Value} (h : ElemsR g sz ys us) (hsz : sz ≠ 0) : CellsR g (ys.flatten.map PVal.nz0) us where
  len := by rw [List.length_map, flatten_len fun x hx => (h.ok x hx).1, h.len]
  get := fun k c hk => by
    have hfl := flatten_len fun x hx => (h.ok x hx).1
    have hlt : k < ys.length * sz := by have := (List.getElem?_eq_some_iff.1 hk).1; simp only [List.length_map, hfl] at this; exact this
    have h1 : k / sz < ys.length := Nat.div_lt_of_lt_mul (by rw [Nat.mul_comm]; exact hlt)
    have h2 : k % sz < sz := Nat.mod_lt _ (by omega)
    have h3 := (h.ok ys[k / sz] (List.getElem_mem _)).1
    obtain ⟨u, hu, hv⟩ := h.get (k / sz) ys[k / sz] (k % sz) (ys[k / sz][k % sz]'(by omega)) (by simp) (by simp)
    have hf := flatten_get (fun x hx => (h.ok x hx).1) (i := k / sz) (x := ys[k / sz]) (j := k % sz) (c := ys[k / sz][k % sz]'(by omega)) (by simp) (by simp)
    have hkk : k / sz * sz + k % sz = k := by rw [Nat.mul_comm]; exact Nat.div_add_mod k sz
    rw [hkk] at hu hf
    rw [List.getElem?_map, hf] at hk
    cases hk
    have hfl' := (h.ok ys[k / sz] (List.getElem_mem _)).2 _ (List.getElem_mem (show k % sz < ys[k / sz].length by omega))
    exact ⟨by rw [PVal.isCell_nz0]; exact flat_cell hfl', u, hu, hv.nz0, OwnOk0_nz0 _ _ _⟩

theorem elems_one {sz : Nat} {ys : List (List PVal)} {us : List Value} (h : ElemsR g sz ys us) (hsz : sz ≠ 0) : ∀ u, u ∈ us → u.oneCell' = true := cells_one (elems_cells h hsz)

theorem clCells_map_nz (cs : List PVal) (vs : List Value) (b : Nat) : clCells (cs.map PVal.nz0) vs b = 0 := clCells_nz cs vs b

/-- A new object whose block is longer. -/
theorem Step.cellsLong {cs : List PVal} {c : Array Value} {vs : List Value} {el : TypeId} {w' : World} (hw : WI g w m) (hh : w' = w.alloc (.cells c el)) (hp : vs <+: c.toList) (h : CellsR g cs vs) (hc : ∀ b, clCells cs c.toList b ≤ ca b) (r : PVal) (v : Value)
    (hv : VR (g.app w.heap.size c.size) r v) (h1 : ∀ xs, r ≠ .slice xs .own) (h2 : ∀ cs, r ≠ .agg cs) :
    Step ca g w m r (m.push (.cells cs)) (g.app w.heap.size c.size) w' v := by
  subst hh
  exact Step.push hw ⟨c, el, by unfold World.alloc; simp, by rw [h.len]; have := hp.length_le; simpa using this, fun i p hp' => by
      obtain ⟨a, v, b, d, e⟩ := h.get i p hp'
      exact ⟨a, v, by simpa using pre_get hp b, d, e⟩⟩ (cells_under hw h) (fun b => by simp only [clObj, heapCells_alloc]; exact hc b) hv (fun g => OwnOk_of h1 h2) (clV_zero_of h1 h2)


theorem sim_append {t u e : TypeId} {d : TypeDesc} {i : TypeInfo} {z : Value} {x y : Operand} {sz : Nat} {xs ys : List (List PVal)} {c : Cap} {q : PVal} (hw : WI g w m) (ht : P.underlying t = some (.slice e)) (hu : P.underlying u = some d)
    (hd : (∃ e', d = .slice e') ∨ d = .string) (hi : P.info? e = some i) (hs : i.size = sz) (hsz : sz ≠ 0) (hz : i.zero = some z) (hzs : z.cells.size = sz) (hb : i.bytes ≤ 32768)
    (hx : Arg g (.slice xs c) (ρ x)) (hy : VR g q (ρ y)) (he : elems m sz q = some ys) (hne : ys ≠ []) (hc : c ≠ .no) (hh : headSz sz xs = true) (h32 : xs.length + ys.length ≤ 4294967296)
    (hca : ∀ b, clV (.slice xs c) (ρ x) b ≤ ca b) (h1 : ∀ b, ca b + clM g w m b ≤ 1) :
    Res P ρ ⟨dst, .call { callee := .builtin .append, args := #[x, y], argTypes := #[t, u] }, ty, pos, after, guard⟩ ca g w m (.slice (xs ++ ys) .own) m := by
  subst hs
  obtain ⟨news, hen, hlen, hfc⟩ := elems_ok (P := P) hw hsz hy he
  obtain ⟨news', hen', hlen', hfc'⟩ := elems_ok (P := P) (wi_drew hw) hsz hy he
  have hyl : 0 < ys.length := by cases ys with
    | nil => exact absurd rfl hne
    | cons => simp
  have hrun : ∀ v w', (Builtin.append_ #[t, u] ty #[ρ x, ρ y]).run P w = .ok v w' → (execOp ρ ⟨dst, .call { callee := .builtin .append, args := #[x, y], argTypes := #[t, u] }, ty, pos, after, guard⟩).run P w = .ok (.value v) w' := by
    intro v w' h
    simp [execOp, resolve, invoke, builtin, h]
  -- a new row
  have more : ∀ base cap (us : List Value), ρ x = .slice base xs.length cap → cap < xs.length + ys.length → ElemsR g i.size xs us → (Builtin.firstCells i.size xs.length (.slice base xs.length cap)).run P w.drew = .ok us.toArray w.drew →
      Res P ρ ⟨dst, .call { callee := .builtin .append, args := #[x, y], argTypes := #[t, u] }, ty, pos, after, guard⟩ ca g w m (.slice (xs ++ ys) .own) m := by
    intro base cap us hrx hlt hel hfo
    have hr := run_append_more (ty := ty) ht hu hd hi hz hlen hfc' hfo hlt h32 hb
    have hge := grownCap_ge w (xs.length + ys.length) cap e
    have hl2 : (xs ++ ys).length = xs.length + ys.length := by simp
    have := Step.newSlice (ca := ca) (w := w.drew) (w' := w.drew.alloc (.cells (us ++ (news' ++ (Builtin.zeroCells z.cells (grownCap w (xs.length + ys.length) cap e - (xs.length + ys.length))).toList)).toArray e))
      (sz := i.size) (xs := xs ++ ys) (el := e) (us := us ++ news') (cap := grownCap w (xs.length + ys.length) cap e) (k := .own) (wi_drew hw) rfl ⟨rfl, rfl, rfl⟩ (by simp [← List.append_assoc]) (hel.append hen') (by omega) (by simp)
      (fun _ => ⟨by simp [hne], by
        simp only [List.size_toArray, List.length_append, Array.length_toList, size_zeroCells, hzs, hel.len, hen'.len]
        rw [← Nat.add_mul, ← Nat.add_mul]
        exact Nat.mul_le_mul_right _ (by omega)⟩)
    rw [hl2] at this
    exact ⟨_, _, _, .inl (hrun _ _ (by rw [hrx]; exact hr)), this.of_drew⟩
  by_cases hxs : xs = []
  · subst hxs
    obtain ⟨a, cap, hrx, _, hex, _⟩ := hx.vr.inv_slice
    have hcap : cap = 0 := by
      cases c with
      | exact => simpa using hex rfl
      | no => exact absurd rfl hc
      | own =>
        have hok := hx.ok
        rw [hrx] at hok
        rcases hok with h | ⟨_, _, _, _, _, _, _, h, _⟩
        · simpa using h.symm
        · exact absurd rfl h
    subst hcap
    refine more a 0 [] hrx (by simpa using hyl) ⟨by simp, by simp, by simp⟩ ?_
    cases a with
    | none => simp [Builtin.firstCells]
    | some a => exact run_firstCells_list (us := []) (by simp) (by simp)
  · obtain ⟨b, off, cap, row, us, hrx, hcap, hex, hl, hel, hsub⟩ := slice_elems hx.vr hsz hxs hh
    by_cases hlt : cap < xs.length + ys.length
    · exact more _ cap us hrx hlt hel (run_first_told (wi_drew hw) hl hsub hel.len)
    · have hcown : c = .own := by
        cases c with
        | exact => have := hex rfl; omega
        | no => exact absurd rfl hc
        | own => rfl
      subst hcown
      have hok := hx.ok
      rw [hrx] at hok
      rcases hok with h | ⟨b', off', row', sz', ha, hl', hfr, _, hs', hcl, hfit⟩
      · omega
      · cases ha
        rw [hl] at hl'
        cases hl'
        have : sz' = i.size := by
          cases xs with
          | nil => exact (hxs rfl).elim
          | cons x xs =>
            have := hs' x List.mem_cons_self
            simp [headSz] at hh
            omega
        subst this
        obtain ⟨cur, fz, hcur, hcsz, hfz, hcells⟩ := lg_prefix hw hl
        obtain rfl := hfz hfr
        have hclb : 1 ≤ ca b := by
          have h2 := hca b
          rw [hrx] at h2
          have : clV (.slice xs .own) (.slice (some ⟨b, off, none⟩) xs.length cap) b = 1 := by
            have : xs.length ≠ cap := by omega
            simp [clV, clV0, claim0, this]
          omega
        have hcm : clM g w m b = 0 := by have := h1 b; omega
        have hle : row.cells.length + news.length ≤ row.size := by
          rw [hcl, hen.len, Nat.add_assoc, ← Nat.add_mul]
          have := Nat.mul_le_mul_right i.size (show xs.length + ys.length ≤ cap by omega)
          omega
        have hst := run_storeCells_at (P := P) b (off + xs.length * i.size) row.elem news 0 cur w hcur (by rw [Nat.add_zero, ← hcl, hcsz]; exact hle) (elems_one hen hsz)
        simp only [Nat.add_zero] at hst
        rw [← hcl] at hst
        have hr := run_append_room (ty := ty) (base := some ⟨b, off, none⟩) (sLen := xs.length) (sCap := cap) ht hu hd hi hlen hfc (by omega) (fun a ha => by cases ha; rw [add_plain, ← hcl]; exact hst) (by simp)
        have hgl : (g.tell b ⟨row.cells ++ news, row.size, row.elem, row.free⟩).lg b = some ⟨row.cells ++ news, row.size, row.elem, row.free⟩ := by simp [Gh.tell]
        have hgle := Gh.tell_grow (row' := ⟨row.cells ++ news, row.size, row.elem, row.free⟩) hl (List.prefix_append _ _)
        have hl2 : (xs ++ ys).length = xs.length + ys.length := by simp
        refine ⟨_, _, _, .inl (hrun _ _ (by rw [hrx]; exact hr)), Step.grow hw hl hcur hle hcm hclb ?_ ?_ ?_⟩
        · rw [← hl2]
          refine vr_of_elems ((hel.append hen).mono hgle) hgl (fun k u hk => ?_) (by omega) (by simp)
          by_cases hkl : k < us.length
          · rw [List.getElem?_append_left hkl] at hk
            have := hsub k u hk
            exact pre_get (List.prefix_append _ _) this
          · rw [List.getElem?_append_right (by omega)] at hk
            have h3 : us.length = xs.length * i.size := hel.len
            rw [List.getElem?_append_right (by omega)]
            rw [show off + k - row.cells.length = k - us.length by omega]
            exact hk
        · refine .inr ⟨b, off, _, i.size, rfl, hgl, hfr, by simp [hne], fun x hx => ?_, ?_, ?_⟩
          · rcases List.mem_append.1 hx with h | h
            · exact hs' x h
            · exact (hen.ok x h).1
          · simp only [List.length_append, hcl, hen.len, Nat.add_mul]; omega
          · exact hfit
        · intro k
          have : clV (.slice (xs ++ ys) .own) (.slice (some ⟨b, off, none⟩) (xs.length + ys.length) cap) k ≤ clV (.slice xs .own) (.slice (some ⟨b, off, none⟩) xs.length cap) k := by
            have : xs.length ≠ cap := by omega
            simp only [clV, clV0, claim0, if_neg this]
            by_cases h : xs.length + ys.length = cap
            · simp [h]
            · simp [h]
          have h2 := hca k
          rw [hrx] at h2
          omega

end
end Go.Ev

/- More operations on slices, and maps. -/
namespace Go.Ev

section
variable {P : Program} {ρ : Operand → Value} {g : Gh} {w : World} {m : Mem} {dst : Option Tmp} {ty : TypeId} {pos : String} {after : Array Edge} {guard : Option (Nat × Bool)} {ca : Nat → Nat}

theorem slice_of {p : PVal} {v : Value} (h : VR g p v) (hp : (∃ xs c, p = .slice xs c) ∨ ∃ s i o l c, p = .oslice s i o l c) : ∃ a n c, v = .slice a n c ∧ n ≤ c := by
  rcases hp with ⟨xs, c, rfl⟩ | ⟨s, i, o, l, c, rfl⟩
  · obtain ⟨a, cap, rfl, h1, _⟩ := h.inv_slice; exact ⟨a, _, cap, rfl, h1⟩
  · obtain ⟨a, cap, rfl, h1, h2, _⟩ := h.inv_oslice; exact ⟨a, _, cap, rfl, by omega⟩

theorem sim_append_none {t u e : TypeId} {d : TypeDesc} {i : TypeInfo} {x y : Operand} {sz : Nat} {p q : PVal} (hw : WI g w m) (ht : P.underlying t = some (.slice e)) (hu : P.underlying u = some d)
    (hd : (∃ e', d = .slice e') ∨ d = .string) (hi : P.info? e = some i) (hs : i.size = sz) (hsz : sz ≠ 0)
    (hx : Arg g p (ρ x)) (hp : (∃ xs c, p = .slice xs c) ∨ ∃ s i o l c, p = .oslice s i o l c) (hy : VR g q (ρ y)) (he : elems m sz q = some []) (hca : ∀ b, clV p (ρ x) b ≤ ca b) :
    Res P ρ ⟨dst, .call { callee := .builtin .append, args := #[x, y], argTypes := #[t, u] }, ty, pos, after, guard⟩ ca g w m p m := by
  subst hs
  obtain ⟨news, hen, hlen, hfc⟩ := elems_ok (P := P) hw hsz hy he
  have hn0 : news = [] := List.eq_nil_of_length_eq_zero (by rw [hen.len]; simp)
  subst hn0
  obtain ⟨a, n, c, hv, hle⟩ := slice_of hx.vr hp
  have hr := run_append_room (ty := ty) (base := a) (sLen := n) (sCap := c) (w' := w) ht hu hd hi hlen hfc (by simpa using hle) (fun a _ => by simp [storeCells]) (fun _ => rfl)
  simp only [List.length_nil, Nat.add_zero] at hr
  refine .pure hw ?_ hx.vr hx.ok hca
  rw [hv]
  simp [execOp, resolve, invoke, builtin, hv, hr]

theorem rep_size {z : List PVal} {zv : Array Value} (h : valsOk zv.toList z = true) : z.length = zv.size := by
  have := (valsOk_get h).1; simpa using this.symm

theorem run_makeSlice {t e : TypeId} {i : TypeInfo} {zv : Value} {l : Nat} {k k' : IntKind} (ht : P.underlying t = some (.slice e)) (hi : P.info? e = some i) (hz : i.zero = some zv) (hb : i.bytes ≤ 32768) (hl : l ≤ 4294967296) :
    (Instr.makeSlice t (.int k l) (.int k' l)).run P w = .ok (.slice (some ⟨w.heap.size, 0, none⟩) l l) (w.alloc (.cells ((Array.range (l * i.size)).map (zv.cells[· % zv.cells.size]!)) e)) := by
  have hbig : (i.bytes : Int) * (l : Int) ≤ 281474976710656 := by
    have : i.bytes * l ≤ 32768 * 4294967296 := Nat.mul_le_mul hb hl
    have h2 : ((i.bytes * l : Nat) : Int) ≤ (140737488355328 : Nat) := by exact_mod_cast this
    simp only [Int.natCast_mul] at h2
    omega
  have := run_make (P := P) w t e i zv ht hi hz k k' l l (by omega) (by omega) hbig (by omega)
  simpa [madeCells] using this

theorem sim_mkrow {t e : TypeId} {i : TypeInfo} {zv : Value} {x y : Operand} {z : List PVal} {p q : PVal} {l : Nat} (hw : WI g w m) (ht : P.underlying t = some (.slice e)) (hi : P.info? e = some i) (hz : i.zero = some zv)
    (hzok : valsOk zv.cells.toList z = true) (hzl : z.length = i.size) (hb : i.bytes ≤ 32768) (hl : l ≤ 4294967296) (hx : VR g p (ρ x)) (hy : VR g q (ρ y)) (hp : natOf p = some l) (hq : natOf q = some l) (hf : z.all PVal.flat = true) :
    Res P ρ ⟨dst, .makeSlice t x y, ty, pos, after, guard⟩ ca g w m (.slice (List.replicate l z) .exact) m := by
  obtain ⟨k, rfl⟩ := natOf_eq hp
  obtain ⟨k', rfl⟩ := natOf_eq hq
  have hr := run_makeSlice (w := w) (k := k) (k' := k') ht hi hz hb hl
  obtain ⟨hzc, hzcl⟩ := rep_cells (g := g) hzok l
  rw [hzl] at hzc
  have hel := elems_of_cells (sz := i.size) (fun x hx => by rw [List.eq_of_mem_replicate hx, hzl]) (fun x hx c hc => by rw [List.eq_of_mem_replicate hx] at hc; exact List.all_eq_true.1 hf c hc) hzc
  have hst := Step.newSlice (ca := ca) (w' := w.alloc (.cells ((Array.range (l * i.size)).map (zv.cells[· % zv.cells.size]!)) e)) (k := .exact) (cap := l) hw rfl ⟨rfl, rfl, rfl⟩ (List.prefix_refl _) hel (by simp) (by simp) (by simp)
  rw [List.length_replicate] at hst
  exact ⟨_, _, _, .inl (by simp [execOp, hx.inv_int, hy.inv_int, hr]), hst⟩

theorem sim_mkrow_obj {t e : TypeId} {i : TypeInfo} {zv : Value} {x y : Operand} {z : List PVal} {p q : PVal} {l : Nat} (hw : WI g w m) (ht : P.underlying t = some (.slice e)) (hi : P.info? e = some i) (hz : i.zero = some zv)
    (hzok : valsOk zv.cells.toList z = true) (hzl : z.length = i.size) (hb : i.bytes ≤ 32768) (hl : l ≤ 4294967296) (hx : VR g p (ρ x)) (hy : VR g q (ρ y)) (hp : natOf p = some l) (hq : natOf q = some l) :
    Res P ρ ⟨dst, .makeSlice t x y, ty, pos, after, guard⟩ ca g w m (.oslice z.length m.next 0 l l) (m.push (.cells (List.replicate l z).flatten)) := by
  obtain ⟨k, rfl⟩ := natOf_eq hp
  obtain ⟨k', rfl⟩ := natOf_eq hq
  have hr := run_makeSlice (w := w) (k := k) (k' := k') ht hi hz hb hl
  obtain ⟨hzc, hzcl⟩ := rep_cells (g := g) hzok l
  rw [hzl] at hzc hzcl
  exact ⟨_, _, _, .inl (by simp [execOp, hx.inv_int, hy.inv_int, hr]), Step.cells (el := e) hw hzc (fun b => by rw [hzcl]; omega) _ _ (.oslice (Nat.le_refl _) (Nat.le_refl _) ⟨w.heap.size, phi_new hw, fun _ => rfl, .inl rfl⟩) (by simp) (by simp)⟩

theorem sim_sliceS {t e : TypeId} {i : TypeInfo} {x : Operand} {lo hi mx : Option Operand} {p r : PVal} {ps : List PVal} {sz : Nat} (hw : WI g w m) (hu : P.underlying t = some (.slice e)) (hi' : P.info? e = some i) (hs : i.size = sz)
    (hp : ∀ s, p ≠ .str s) (hx : Arg g p (ρ x)) (ha : Args g ps ((lo.toList ++ (hi.toList ++ mx.toList)).map ρ)) (hca : ∀ b, clV p (ρ x) b ≤ ca b) (he : evSlice sz p lo.isSome hi.isSome mx.isSome ps = some r) :
    Res P ρ ⟨dst, .slice t x lo hi mx, ty, pos, after, guard⟩ ca g w m r m := by
  obtain ⟨u, hr, h1, h2, h3⟩ := evSlice_run (w := w) hu hi' hs hp hx ha he
  refine .pure hw ?_ h1 h2 fun b => by have := h3 b; have := hca b; omega
  have : (Instr.sliceAt t (ρ x) (lo.map ρ) (hi.map ρ) (mx.map ρ)).run P w = .ok u w := by
    simp only [Instr.sliceAt, Sem.run_bind, run_underlying' hu, Result.andThen_ok]
    exact hr
  simp [execOp, this]

theorem bytes_ext {a b : ByteArray} (h : a.data.toList = b.data.toList) : a = b := by
  obtain ⟨a⟩ := a; obtain ⟨b⟩ := b
  simp at h; rw [h]

theorem sim_sliceStr {t : TypeId} {x : Operand} {lo hi mx : Option Operand} {s : List UInt8} {r : PVal} {ps : List PVal} {sz : Nat} (hw : WI g w m) (hu : P.underlying t = some .string)
    (hx : VR g (.str s) (ρ x)) (ha : Args g ps ((lo.toList ++ (hi.toList ++ mx.toList)).map ρ)) (he : evSlice sz (.str s) lo.isSome hi.isSome mx.isSome ps = some r) :
    Res P ρ ⟨dst, .slice t x lo hi mx, ty, pos, after, guard⟩ ca g w m r m := by
  simp only [evSlice, Option.bind_eq_some_iff] at he
  obtain ⟨⟨l, h, k⟩, hb, he⟩ := he
  obtain ⟨hcond, he⟩ := bif_some he
  simp only [Bool.and_eq_true, Nat.ble_eq, Bool.not_eq_true'] at hcond
  obtain ⟨⟨⟨hlh, hhs⟩, hmx⟩, _⟩ := hcond
  simp only [Option.some.injEq] at he
  subst he
  have hmx' : mx = none := by cases mx <;> simp_all
  subst hmx'
  have hk := bounds_no_mx hb
  subst hk
  have hrun := run_sliceBounds (P := P) (w := w) (isSlice := false) (cap := s.length) ha hb hlh hhs (by omega) (by omega)
  have ex := hx.inv_str
  have hsz : (⟨s.toArray⟩ : ByteArray).size = s.length := rfl
  refine .plain hw (v := .string ((⟨s.toArray⟩ : ByteArray).extract l h)) ?_ ?_ (by simp) (by simp)
  · simp only [execOp, Instr.sliceAt, Sem.run_bind, run_underlying' hu, Result.andThen_ok, Instr.slice, ex, hsz]
    simp only [Option.map_none, Option.isSome_none, Bool.false_eq_true, if_false] at hrun ⊢
    simp [hrun]
  · have : (⟨s.toArray⟩ : ByteArray).extract l h = ⟨((s.take h).drop l).toArray⟩ := by
      apply bytes_ext
      simp [ByteArray.data_extract, List.drop_take]
    rw [this]
    exact .str _

theorem sim_sliceA_ptr {t e : TypeId} {i : TypeInfo} {x : Operand} {lo hi mx : Option Operand} {id off n : Nat} {r : PVal} {ps : List PVal} {sz : Nat} (hw : WI g w m) (hu : P.underlying t = some (.array n e)) (hi' : P.info? e = some i) (hs : i.size = sz)
    (hx : VR g (.ptr id off) (ρ x)) (ha : Args g ps ((lo.toList ++ (hi.toList ++ mx.toList)).map ρ)) (he : evSlice sz (.oslice sz id off n n) lo.isSome hi.isSome mx.isSome ps = some r) :
    Res P ρ ⟨dst, .slice t x lo hi mx, ty, pos, after, guard⟩ ca g w m r m := by
  simp only [evSlice, Option.bind_eq_some_iff] at he
  obtain ⟨⟨l, h, k⟩, hb, he⟩ := he
  obtain ⟨hcond, he⟩ := bif_some he
  simp only [Bool.and_eq_true, Nat.ble_eq] at hcond
  obtain ⟨⟨⟨⟨hlh, hhk⟩, hkn⟩, _⟩, _⟩ := hcond
  simp only [Option.some.injEq] at he
  subst he
  obtain ⟨b, hb', ex⟩ := hx.inv_ptr
  have hrun := run_sliceBounds (P := P) (w := w) (isSlice := false) (cap := n) ha hb hlh hhk hkn (by omega)
  have hK : (if mx.isSome = true then k else n) = k := by
    cases hmx : mx.isSome with
    | true => rfl
    | false => rw [hmx] at hb; exact (bounds_no_mx hb).symm
  rw [hK] at hrun
  refine .plain hw (v := .slice (some (if k = l then ⟨b, off, none⟩ else ⟨b, off + l * sz, none⟩)) (h - l) (k - l)) ?_ (.oslice (by omega) (Nat.le_refl _) ⟨b, hb', fun h0 => ?_, .inl rfl⟩) (by simp) (by simp)
  · simp only [execOp, Instr.sliceAt, Sem.run_bind, run_underlying' hu, Result.andThen_ok, ex, Instr.sureAddr, Sem.run_pure, hrun, run_sizeOf' hi', hs, add_plain]
  · have : ¬ k = l := by omega
    rw [if_neg this]

theorem vr_eptr_slice {cs : List PVal} {b off n sz : Nat} (h : VR g (.eptr cs) (.pointer (some ⟨b, off, none⟩))) (hn : n * sz ≤ cs.length) : VR g (.slice (pieces sz n cs) .no) (.slice (some ⟨b, off, none⟩) n n) := by
  obtain ⟨b', off', row, vs, e, hl, hf, hc, hv⟩ := h.inv_eptr
  cases e
  have hlen : (pieces sz n cs).length = n := pieces_len
  by_cases hne : pieces sz n cs = []
  · have h0 : n = 0 := by rw [← hlen, hne]; rfl
    subst h0
    exact .slice0 (by simp)
  · have hsub : ∀ (i : Nat) x, (pieces sz n cs)[i]? = some x → x.length = sz ∧ ∀ (j : Nat) c, x[j]? = some c → cs[i * sz + j]? = some c := fun i x hi => by
      obtain ⟨h1, rfl⟩ := pieces_get hi
      have hle : i * sz + sz ≤ cs.length := by
        calc i * sz + sz = (i + 1) * sz := by rw [Nat.add_mul, Nat.one_mul]
          _ ≤ n * sz := Nat.mul_le_mul_right _ h1
          _ ≤ cs.length := hn
      refine ⟨by simp; omega, fun j c hj => ?_⟩
      have hjs : j < sz := by have := (List.getElem?_eq_some_iff.1 hj).1; simp at this; omega
      rw [List.getElem?_take_of_lt hjs, List.getElem?_drop] at hj
      exact hj
    have := VR.slice (g := g) (xs := pieces sz n cs) (c := .no) (b := b) (off := off) (cap := n) (row := row) sz (fun i j => vs (i * sz + j)) hne hl (by omega) (by simp) (fun x hx => by
      obtain ⟨i, hi⟩ := List.mem_iff_getElem?.1 hx
      refine ⟨(hsub i x hi).1, fun c hc' => ?_⟩
      obtain ⟨j, hj⟩ := List.mem_iff_getElem?.1 hc'
      exact hf c (List.mem_of_getElem? ((hsub i x hi).2 j c hj))) (fun i x j c hi hj => by rw [Nat.add_assoc]; exact hc _ c ((hsub i x hi).2 j c hj)) (fun i x j c hi hj => hv _ c ((hsub i x hi).2 j c hj))
    rw [hlen] at this
    exact this

theorem sim_sliceA_eptr {t e : TypeId} {i : TypeInfo} {x : Operand} {lo hi mx : Option Operand} {n : Nat} {cs : List PVal} {r : PVal} {ps : List PVal} {sz : Nat} (hw : WI g w m) (hu : P.underlying t = some (.array n e)) (hi' : P.info? e = some i) (hs : i.size = sz)
    (hx : VR g (.eptr cs) (ρ x)) (hn : n * sz ≤ cs.length) (ha : Args g ps ((lo.toList ++ (hi.toList ++ mx.toList)).map ρ)) (he : evSlice sz (.slice (pieces sz n cs) .no) lo.isSome hi.isSome mx.isSome ps = some r) :
    Res P ρ ⟨dst, .slice t x lo hi mx, ty, pos, after, guard⟩ ca g w m r m := by
  simp only [evSlice, Option.bind_eq_some_iff] at he
  obtain ⟨⟨l, h, k⟩, hb, he⟩ := he
  simp only at he
  obtain ⟨hcond, he⟩ := bif_some he
  simp only [Bool.and_eq_true, Nat.ble_eq, pieces_len] at hcond
  obtain ⟨⟨⟨⟨hlh, hhk⟩, hkn⟩, hsz⟩, _⟩ := hcond
  simp only [Option.some.injEq] at he
  obtain ⟨b, off, row, vs, ex, hl, hf, hc, hvv⟩ := hx.inv_eptr
  rw [pieces_len] at hb
  have hrun := run_sliceBounds (P := P) (w := w) (isSlice := false) (cap := n) ha hb hlh hhk hkn (by omega)
  have hK : (if mx.isSome = true then k else n) = k := by
    cases hmx : mx.isSome with
    | true => rfl
    | false => rw [hmx] at hb; exact (bounds_no_mx hb).symm
  rw [hK] at hrun
  rw [ex] at hx
  have hsl := vr_eptr_slice hx hn
  obtain ⟨c', hc'⟩ : ∃ c', r = .slice ((List.take h (pieces sz n cs)).drop l) c' ∧ c' ≠ .own ∧ (c' = .exact → k - l = h - l) := by
    refine ⟨_, he.symm, ?_, ?_⟩
    · have aux : ∀ (a b c d : Bool), (bif a then (bif b then Cap.exact else .no) else (bif c && d then Cap.no else .no)) ≠ .own := by decide
      exact aux _ _ _ _
    · have aux : ∀ (a b c d : Bool), (bif a then (bif b then Cap.exact else .no) else (bif c && d then Cap.no else .no)) = .exact → b = true := by decide
      intro e
      have := Nat.eq_of_beq_eq_true (aux _ _ _ _ e)
      omega
  obtain ⟨rfl, hno, hex⟩ := hc'
  refine .plain hw (v := .slice (some (if k = l then ⟨b, off, none⟩ else ⟨b, off + l * sz, none⟩)) (h - l) (k - l)) ?_ ?_ (fun xs e => by injection e with _ e2; exact hno e2) (by simp)
  · simp only [execOp, Instr.sliceAt, Sem.run_bind, run_underlying' hu, Result.andThen_ok, ex, Instr.sureAddr, Sem.run_pure, hrun, run_sizeOf' hi', hs, add_plain]
  · by_cases hkl : k = l
    · rw [if_pos hkl]
      have h0 : h - l = 0 := by omega
      have hnil : (List.take h (pieces sz n cs)).drop l = [] := by apply List.eq_nil_of_length_eq_zero; simp [pieces_len]; omega
      rw [hnil, h0]
      exact .slice0 fun _ => by omega
    · rw [if_neg hkl]
      have := vr_slice (c' := c') (cap' := k - l) (l := l) (h := h) (by rw [pieces_len]; exact hsl) hlh (by rw [pieces_len]; omega) (by omega) hex hsz (.inr trivial)
      exact this

end
end Go.Ev

/- Maps, lengths, aggregates beside one another. -/
namespace Go.Ev

section
variable {P : Program} {ρ : Operand → Value} {g : Gh} {w : World} {m : Mem} {dst : Option Tmp} {ty : TypeId} {pos : String} {after : Array Edge} {guard : Option (Nat × Bool)} {ca : Nat → Nat}

theorem getObj_run {b : Nat} {es : Array MapEntry} {c : Nat} (h : w.heap[b]? = some (.map es c)) : (getObj b).run P w = .ok (.map es c) w := by
  simp only [getObj, Sem.run, h]

theorem sim_len_nilmap {t k e : TypeId} {x : Operand} (hw : WI g w m) (hu : P.underlying t = some (.map k e)) (hx : VR g .nilmap (ρ x)) :
    Res P ρ ⟨dst, .call { callee := .builtin .len, args := #[x], argTypes := #[t] }, ty, pos, after, guard⟩ ca g w m (.int .i64 0) m :=
  .plain hw (v := .int .i64 0) (by simp [execOp, resolve, invoke, builtin, Builtin.len_, run_underlying' hu, hx.inv_nilmap, goInt]) (.int _ _) (by simp) (by simp)

theorem sim_len_map {t k e : TypeId} {x : Operand} {id : Nat} {es : List (PVal × PVal)} (hw : WI g w m) (hu : P.underlying t = some (.map k e)) (hx : VR g (.map id) (ρ x)) (hg : m.get id = some (.map es)) :
    Res P ρ ⟨dst, .call { callee := .builtin .len, args := #[x], argTypes := #[t] }, ty, pos, after, guard⟩ ca g w m (.int .i64 es.length) m := by
  obtain ⟨b, hb, ex⟩ := hx.inv_map
  obtain ⟨b', hb', _, ⟨ents, clock, hh, hl, _⟩⟩ := hw.get hg
  obtain rfl : b = b' := by rw [hb] at hb'; exact Option.some.inj hb'
  refine .plain hw (v := .int .i64 es.length) ?_ (.int _ _) (by simp) (by simp)
  simp [execOp, resolve, invoke, builtin, Builtin.len_, run_underlying' hu, ex, getObj_run hh, goInt, hl]

theorem sim_mkmap {t : TypeId} (hw : WI g w m) : Res P ρ ⟨dst, .makeMap t none, ty, pos, after, guard⟩ ca g w m (.map m.next) (m.push (.map [])) := by
  refine ⟨g.app w.heap.size 0, w.alloc (.map #[] 0), .map (some w.heap.size), .inl (by simp [execOp, Instr.makeMap]), ?_⟩
  exact {
    wi := hw.push (ob := .map #[] 0) ⟨#[], 0, by unfold World.alloc; simp, rfl, fun i k v h => by simp at h⟩ rfl
    vr := .map (phi_new hw)
    ok := trivial
    size := by unfold World.alloc; simp
    φ := ⟨[w.heap.size], rfl, fun b h => by simp at h; exact .inl (by omega)⟩
    lgle := fun b row h => ⟨row, h, List.prefix_refl _⟩
    bs := hw.app_le.bs
    claims := fun b _ => by rw [clM_push hw]; simp [clObj, clV, clV0, claim0]
    claims' := fun b hb => by rw [clM_push hw, clM_lt hw hb]; simp [clObj, clV, clV0, claim0]
    keepLg := fun b row h _ => h
    keepBlk := fun b hb _ _ => alloc_old w _ hb
    fresh := fun b c' e fz h => by
      have h' : (w.heap.push (Obj.map #[] 0))[b]? = some (.cells c' e fz) := h
      by_cases hb : b < w.heap.size
      · rw [Array.getElem?_push_lt hb] at h'
        exact .inl ⟨c', by rw [Array.getElem?_eq_getElem hb]; exact h'⟩
      · have hlt := (Array.getElem?_eq_some_iff.1 h').1
        simp at hlt
        obtain rfl : b = w.heap.size := by omega
        simp at h'
    R := (by first | rfl | exact h.R | exact h'.R.trans h.R)
    keepNone := fun _ _ h _ => h
    os := ⟨rfl, rfl, rfl⟩ }

/-- Are the keys of this kind told apart at once? -/
def plainKey : TypeDesc → Bool
  | .int _ | .string | .bool => true
  | _ => false

def keyFits (d : TypeDesc) (p : PVal) : Bool := match d, p with | .int _, .int .. => true | .string, .str _ => true | .bool, .bool _ => true | _, _ => false

theorem sameCell_now {d : TypeDesc} {p q : PVal} {a b : Value} {t : Bool} (hd : d = .bool ∨ d = .string ∨ ∃ k, d = .int k) (hp : VR g p a) (hq : VR g q b) (hk : keyFits d p = true)
    (h : sameCell p q = some t) : Instr.sameNow d a b = some t := by
  unfold sameCell at h
  split at h
  · rename_i k x k' y
    obtain rfl := hp.inv_int; obtain rfl := hq.inv_int
    by_cases hkk : k = k'
    · subst hkk
      simp at h; subst h
      rcases hd with rfl | rfl | ⟨kk, rfl⟩ <;> simp [keyFits] at hk
      simp [Instr.sameNow]
    · simp [hkk] at h
  · obtain rfl := hp.inv_bool; obtain rfl := hq.inv_bool
    rcases hd with rfl | rfl | ⟨kk, rfl⟩ <;> simp [keyFits] at hk
    simp at h; subst h
    simp [Instr.sameNow]
  · rename_i x y
    obtain rfl := hp.inv_str; obtain rfl := hq.inv_str
    rcases hd with rfl | rfl | ⟨kk, rfl⟩ <;> simp [keyFits] at hk
    simp at h; subst h
    simp only [Instr.sameNow]
    have : ((⟨x.toArray⟩ : ByteArray) == ⟨y.toArray⟩) = (x.toArray == y.toArray) := rfl
    rw [this]; simp
  · cases h

theorem sameVal_cell {d : TypeDesc} {p q : PVal} (hk : keyFits d p = true) : sameVal p q = sameCell p q := by
  cases d <;> cases p <;> simp [keyFits] at hk <;> (cases q <;> rfl)

theorem find_ok {d : TypeDesc} {kp : PVal} {kv : Value} (hk : keyFits d kp = true) (hkv : VR g kp kv) : ∀ {es : List (PVal × PVal)} {ents : List MapEntry} {r : Option PVal} (i : Nat), ents.length = es.length →
    (∀ (j : Nat) k v, es[j]? = some (k, v) → ∃ e, ents[j]? = some e ∧ VR g k e.key ∧ VR g v e.val) → findKey kp es = some r →
    (r = none ∧ Instr.findNow d kv ents i = some none) ∨ ∃ p v j, r = some p ∧ VR g p v ∧ Instr.findNow d kv ents i = some (some (i + j, v)) ∧ j < es.length := by
  have hd : d = .bool ∨ d = .string ∨ ∃ k, d = .int k := by cases d <;> cases kp <;> simp [keyFits] at hk ⊢
  intro es
  induction es with
  | nil =>
    intro ents r i hl _ h
    have : ents = [] := by cases ents <;> simp_all
    subst this
    simp [findKey] at h
    exact .inl ⟨h.symm, rfl⟩
  | cons e es ih =>
    intro ents r i hl hg h
    obtain ⟨k, v⟩ := e
    cases ents with
    | nil => simp at hl
    | cons n ents =>
      obtain ⟨n', hn, hkk, hvv⟩ := hg 0 k v rfl
      simp at hn; subst hn
      simp only [findKey, Option.bind_eq_some_iff] at h
      obtain ⟨t, ht, h⟩ := h
      rw [sameVal_cell hk] at ht
      have hnow := sameCell_now hd hkv hkk hk ht
      cases t with
      | true =>
        simp at h
        exact .inr ⟨v, n.val, 0, h.symm, hvv, by simp [Instr.findNow, hnow], by simp⟩
      | false =>
        simp at h
        rcases ih (ents := ents) (i + 1) (by simpa using hl) (fun j k v hj => by simpa using hg (j + 1) k v (by simpa using hj)) h with ⟨h1, h2⟩ | ⟨p, u, j, h1, h2, h3, h4⟩
        · exact .inl ⟨h1, by simp [Instr.findNow, hnow, h2]⟩
        · exact .inr ⟨p, u, j + 1, h1, h2, by simp [Instr.findNow, hnow, h3]; omega, by simp; omega⟩

theorem run_checkKey {d : TypeDesc} {kt : TypeId} {p : PVal} {v : Value} {e : Bool} (hu : P.underlying kt = some d) (hk : keyFits d p = true) (hv : VR g p v) : (Instr.checkKey e 10000 kt v).run P w = .ok () w := by
  have hs : Instr.checkKey e 10000 kt v = Instr.checkKey e (9999 + 1) kt v := rfl
  rw [hs]
  generalize 9999 = n
  cases d <;> cases p <;> simp [keyFits] at hk
  · obtain rfl := hv.inv_bool; simp [Instr.checkKey, run_underlying' hu]
  · obtain rfl := hv.inv_int; simp [Instr.checkKey, run_underlying' hu]
  · obtain rfl := hv.inv_str; simp [Instr.checkKey, run_underlying' hu]

theorem sim_lookup {t kt et : TypeId} {d : TypeDesc} {x y : Operand} {p kp zero : PVal} {i : TypeInfo} {zv : Value} {ok : Bool} {r : Option PVal} (hw : WI g w m) (hu : P.underlying t = some (.map kt et)) (hku : P.underlying kt = some d) (hk : keyFits d kp = true)
    (hi : P.info? et = some i) (hz : i.zero = some zv) (hvz : VR g zero zv) (hoz : OwnOk g zero zv) (hcz : ∀ b, clV zero zv b = 0) (hx : VR g p (ρ x)) (hy : VR g kp (ρ y))
    (hf : (p = .nilmap ∧ r = none) ∨ ∃ id es, p = .map id ∧ m.get id = some (.map es) ∧ findKey kp es = some r) :
    Res P ρ ⟨dst, .lookup t x y ok, ty, pos, after, guard⟩ ca g w m (bif ok then .tuple [(r.map PVal.nz1).getD zero, .bool r.isSome] else (r.map PVal.nz1).getD zero) m := by
  have hzv : (zeroValue et).run P w = .ok zv w := by simp [zeroValue, run_typeInfo' hi, hz]
  have key : ∃ u, (Instr.lookup t (ρ x) (ρ y) ok).run P w = .ok (if ok then .tuple #[u, .bool r.isSome] else u) w ∧ VR g ((r.map PVal.nz1).getD zero) u ∧ OwnOk g ((r.map PVal.nz1).getD zero) u ∧ ∀ b, clV ((r.map PVal.nz1).getD zero) u b = 0 := by
    rcases hf with ⟨rfl, rfl⟩ | ⟨id, es, rfl, hget, hfind⟩
    · refine ⟨zv, ?_, hvz, hoz, hcz⟩
      simp only [Instr.lookup, Sem.run_bind, run_underlying' hu, Result.andThen_ok, hx.inv_nilmap, Sem.run_pure, run_checkKey hku hk hy, Instr.findKey, run_underlying' hku]
      have : Instr.findNow d (ρ y) (#[] : Array MapEntry).toList 0 = some none := rfl
      simp [this, hzv]
    · obtain ⟨b, hb, ex⟩ := hx.inv_map
      obtain ⟨b', hb', _, ⟨ents, clock, hh, hl, hents⟩⟩ := hw.get hget
      obtain rfl : b = b' := by rw [hb] at hb'; exact Option.some.inj hb'
      rcases find_ok (d := d) hk hy (ents := ents.toList) 0 (by simpa using hl) (fun j k v hj => by simpa using hents j k v hj) hfind with ⟨rfl, hnow⟩ | ⟨q, u, j, rfl, hv, hnow, _⟩
      · refine ⟨zv, ?_, hvz, hoz, hcz⟩
        simp only [Instr.lookup, Sem.run_bind, run_underlying' hu, Result.andThen_ok, ex, getObj_run hh, Sem.run_pure, run_checkKey hku hk hy, Instr.findKey, run_underlying' hku, hnow]
        simp [hzv]
      · refine ⟨u, ?_, hv.nz1, OwnOk_nz1 _ _ _, clV_nz1 _ _⟩
        simp only [Instr.lookup, Sem.run_bind, run_underlying' hu, Result.andThen_ok, ex, getObj_run hh, Sem.run_pure, run_checkKey hku hk hy, Instr.findKey, run_underlying' hku, hnow]
        simp
  obtain ⟨u, hr, h1, h2, h3⟩ := key
  cases ok with
  | true =>
    refine .plain hw (v := .tuple #[u, .bool r.isSome]) (by simp [execOp, hr]) (.tuple rfl fun j c e => ?_) (by simp) (by simp)
    match j, e with
    | 0, e => simp at e; subst e; exact h1
    | 1, e => simp at e; subst e; exact .bool _
    | j + 2, e => simp at e
  | false => exact .pure hw (by simp [execOp, hr]) h1 h2 fun b => by simp only [cond_false]; rw [h3]; omega

end
end Go.Ev

/- Copying, taking out of a variable, rows that are not written any more. -/
namespace Go.Ev

section
variable {P : Program} {ρ : Operand → Value} {g : Gh} {w : World} {m : Mem} {dst : Option Tmp} {ty : TypeId} {pos : String} {after : Array Edge} {guard : Option (Nat × Bool)} {ca : Nat → Nat}

theorem Step.cast_unit {r r' : PVal} {m' : Mem} {g' : Gh} {w' : World} {v v' : Value} (h : Step ca g w m r m' g' w' v) (hv : VR g' r' v') (ho : OwnOk g' r' v') (hc : ∀ b, clV r' v' b = 0) : Step ca g w m r' m' g' w' v' where
  wi := h.wi
  vr := hv
  ok := ho
  size := h.size
  φ := h.φ
  lgle := h.lgle
  bs := h.bs
  claims := fun b hb => by have := h.claims b hb; rw [hc]; omega
  claims' := fun b hb => by have := h.claims' b hb; rw [hc]; omega
  keepLg := h.keepLg
  keepBlk := h.keepBlk
  fresh := h.fresh
  R := (by first | rfl | exact h.R | exact h'.R.trans h.R)
  keepNone := h.keepNone
  os := h.os

theorem sim_copy {t u e : TypeId} {i : TypeInfo} {x y : Operand} {sz id off len cap : Nat} {q : PVal} {ys : List (List PVal)} {m' : Mem} (hw : WI g w m) (ht : P.underlying t = some (.slice e)) (hi : P.info? e = some i) (hs : i.size = sz) (hsz : sz ≠ 0)
    (hx : VR g (.oslice sz id off len cap) (ρ x)) (hy : VR g q (ρ y)) (he : elems m sz q = some ys) (hwr : writeAt m (.ptr id off) ((ys.take len).flatten.map PVal.nz0) = some m') :
    Res P ρ ⟨dst, .call { callee := .builtin .copy, args := #[x, y], argTypes := #[t, u] }, ty, pos, after, guard⟩ ca g w m (.int .i64 (Nat.min ys.length len)) m' := by
  subst hs
  obtain ⟨us0, hel0, hlen, hfc0⟩ := elems_ok' (P := P) hw hsz hy he
  obtain ⟨a, cap', ex, h1, h2, b, hb, hne, _⟩ := hx.inv_oslice
  have hfc := hfc0 (Nat.min ys.length len) (Nat.min_le_left _ _)
  have htl : (ys.take len).length = Nat.min ys.length len := by rw [List.length_take]; exact Nat.min_comm _ _
  have hel : ElemsR g i.size (ys.take len) (us0.take (Nat.min ys.length len * i.size)) := by
    have hm := Nat.mul_le_mul_right i.size (Nat.min_le_left ys.length len)
    refine ⟨?_, fun x hx => hel0.ok x (List.mem_of_mem_take hx), fun k x j c hk hj => ?_⟩
    · rw [htl, List.length_take, hel0.len]; exact Nat.min_eq_left hm
    · rw [List.getElem?_take] at hk
      split at hk
      · rename_i hkl
        obtain ⟨u, hu, hv⟩ := hel0.get k x j c hk hj
        refine ⟨u, ?_, hv⟩
        have hj' : j < i.size := by rw [← (hel0.ok x (List.mem_of_getElem? hk)).1]; exact (List.getElem?_eq_some_iff.1 hj).1
        have hkx : k < ys.length := (List.getElem?_eq_some_iff.1 hk).1
        have hkm : k < Nat.min ys.length len := Nat.lt_min.2 ⟨hkx, hkl⟩
        have : k * i.size + j < Nat.min ys.length len * i.size := by
          calc k * i.size + j < k * i.size + i.size := by omega
            _ = (k + 1) * i.size := by rw [Nat.add_mul, Nat.one_mul]
            _ ≤ _ := Nat.mul_le_mul_right _ hkm
        rw [List.getElem?_take_of_lt this]; exact hu
      · cases hk
  generalize us0.take (Nat.min ys.length len * i.size) = us at hfc hel
  have hml : Nat.min ys.length len ≤ len := Nat.min_le_right _ _
  have hcs := elems_cells hel hsz
  obtain ⟨b', off', cur, el, e1, hcur, hfit, hst⟩ := write_ok (ca := ca) hw hwr (VR.ptr hb) us hcs.len.symm hcs.get (fun b => by rw [clCells_map_nz]; omega)
  cases e1
  have hstore : ∀ a', a = some a' → (storeCells a' us).run P w = .ok () (w.setRow b (cur.toList.take off ++ us ++ cur.toList.drop (off + us.length)).toArray) := by
    intro a' ha
    by_cases hc0 : cap' = 0
    · have hy0 : Nat.min ys.length len = 0 := by omega
      have hu0 : us = [] := List.eq_nil_of_length_eq_zero (by rw [hel.len, htl, hy0]; simp)
      subst hu0
      simp only [storeCells, List.append_nil, List.length_nil, Nat.add_zero, List.take_append_drop, Array.toArray_toList]
      rw [setRow_self w b cur el (0, 0) hcur]; rfl
    · rw [hne hc0] at ha; cases ha
      have := run_storeCells_at (P := P) b off el us 0 cur w hcur (by simpa using hfit) (elems_one hel hsz)
      simpa using this
  have hnone : a = none → (w.setRow b (cur.toList.take off ++ us ++ cur.toList.drop (off + us.length)).toArray) = w := by
    intro ha
    by_cases hc0 : cap' = 0
    · have hy0 : Nat.min ys.length len = 0 := by omega
      have hu0 : us = [] := List.eq_nil_of_length_eq_zero (by rw [hel.len, htl, hy0]; simp)
      subst hu0
      simp only [List.append_nil, List.length_nil, Nat.add_zero, List.take_append_drop, Array.toArray_toList]
      rw [setRow_self w b cur el (0, 0) hcur]
    · rw [hne hc0] at ha; cases ha
  refine ⟨_, _, .int .i64 (Nat.min ys.length len), .inl ?_, hst.cast_unit (.int _ _) trivial fun _ => rfl⟩
  have hmm : min ys.length len = Nat.min ys.length len := rfl
  cases a with
  | none =>
    rw [hnone rfl]
    simp [execOp, resolve, invoke, builtin, Builtin.copy_, run_underlying' ht, run_sizeOf' hi, ex, hlen, hfc, goInt]
  | some a' =>
    have := hstore a' rfl
    simp [execOp, resolve, invoke, builtin, Builtin.copy_, run_underlying' ht, run_sizeOf' hi, ex, hlen, hfc, goInt, this]


theorem sim_clear {t e : TypeId} {i : TypeInfo} {zv : Value} {x : Operand} {z : List PVal} {id off len cap : Nat} {m' : Mem} (hw : WI g w m) (ht : P.underlying t = some (.slice e)) (hi : P.info? e = some i) (hz : i.zero = some zv) (hzl : z.length = i.size) (hz0 : z.length ≠ 0) (hf : z.all PVal.flat = true)
    (hzok : valsOk zv.cells.toList z = true) (hx : VR g (.oslice z.length id off len cap) (ρ x)) (hwr : writeAt m (.ptr id off) (List.replicate len z).flatten = some m') :
    Res P ρ ⟨dst, .call { callee := .builtin .clear, args := #[x], argTypes := #[t] }, ty, pos, after, guard⟩ ca g w m (.tuple []) m' := by
  obtain ⟨a, cap', ex, h1, h2, b, hb, hne, _⟩ := hx.inv_oslice
  obtain ⟨hzc, hzcl⟩ := rep_cells (g := g) hzok len
  have hsz := rep_size hzok
  generalize hus : ((Array.range (len * z.length)).map (zv.cells[· % zv.cells.size]!)).toList = us at hzc hzcl
  have hzc' : (Builtin.zeroCells zv.cells len).toList = us := by rw [← hus]; unfold Builtin.zeroCells; rw [hsz]
  obtain ⟨b', off', cur, el, e1, hcur, hfit, hst⟩ := write_ok (ca := ca) hw hwr (VR.ptr hb) us hzc.len.symm hzc.get (fun b => by rw [hzcl]; omega)
  cases e1
  have hul : us.length = len * z.length := by rw [← hus]; simp
  have hzr : (zeroValue e).run P w = .ok zv w := by simp [zeroValue, run_typeInfo' hi, hz]
  have hel := elems_of_cells (sz := z.length) (fun x hx => by rw [List.eq_of_mem_replicate hx]) (fun x hx c hc => by rw [List.eq_of_mem_replicate hx] at hc; exact List.all_eq_true.1 hf c hc) hzc
  refine ⟨_, _, .tuple #[], .inl ?_, hst.cast_unit (.tuple rfl fun i c h => by simp at h) trivial fun _ => rfl⟩
  by_cases hl0 : len = 0
  · subst hl0
    have hu0 : us = [] := List.eq_nil_of_length_eq_zero (by rw [hul]; simp)
    subst hu0
    have hself : w.setRow b (cur.toList.take off ++ [] ++ cur.toList.drop (off + 0)).toArray = w := by
      simp only [List.append_nil, Nat.add_zero, List.take_append_drop, Array.toArray_toList]
      exact setRow_self w b cur el (0, 0) hcur
    show _ = Result.ok _ (w.setRow b (cur.toList.take off ++ [] ++ cur.toList.drop (off + 0)).toArray)
    rw [hself]
    cases a <;> simp [execOp, resolve, invoke, builtin, Builtin.clear_, run_underlying' ht, ex]
  · rw [hne (by omega)] at ex
    have hstore := run_storeCells_at (P := P) b off el us 0 cur w hcur (by simpa using hfit) (elems_one hel hz0)
    obtain ⟨l', rfl⟩ : ∃ l', len = l' + 1 := ⟨len - 1, by omega⟩
    have hstore' : (storeCells ⟨b, off, none⟩ (Builtin.zeroCells zv.cells (l' + 1)).toList).run P w = .ok () (w.setRow b (cur.toList.take off ++ us ++ cur.toList.drop (off + us.length)).toArray) := by
      rw [hzc']; simpa using hstore
    clear hst hstore
    generalize w.setRow b (cur.toList.take off ++ us ++ cur.toList.drop (off + us.length)).toArray = W at hstore' ⊢
    simp [execOp, resolve, invoke, builtin, Builtin.clear_, run_underlying' ht, ex, hzr, hstore']

theorem clCells_steal {cs : List PVal} {xs : List Value} {n : Nat} {c : PVal} {v : Value} (hc : cs[n]? = some c) (hx : xs[n]? = some v) (b : Nat) :
    clV0 c v b + clCells (putAt cs n [c.nz0]) xs b = clCells cs xs b := by
  induction cs generalizing n xs with
  | nil => simp at hc
  | cons d cs ih =>
    cases xs with
    | nil => simp at hx
    | cons x xs =>
      cases n with
      | zero =>
        simp at hc hx; subst hc; subst hx
        simp only [putAt, clCells, putAt_nil, clV0_nz0]; omega
      | succ n =>
        simp only [putAt, clCells]
        have := ih (n := n) (xs := xs) (by simpa using hc) (by simpa using hx)
        omega

theorem putAt_same {α : Type} {xs : List α} {n : Nat} {v : α} (h : xs[n]? = some v) : putAt xs n [v] = xs := by
  induction xs generalizing n with
  | nil => simp at h
  | cons x xs ih =>
    cases n with
    | zero => simp at h; subst h; simp [putAt, putAt_nil]
    | succ n => simp only [putAt]; rw [ih (by simpa using h)]

theorem steal_ok {p c : PVal} {v : Value} {m' : Mem} (hw : WI g w m) (hr : readAt m p 1 = some [c]) (hwr : writeAt m p [c.nz0] = some m') (hv : VR g p v) :
    ∃ b off u, v = .pointer (some ⟨b, off, none⟩) ∧ w.cell? ⟨b, off, none⟩ = some u ∧ c.isCell = true ∧ Step ca g w m c m' g w u := by
  obtain ⟨id, off, cs0, rfl, hget, hle, hm', hc⟩ : ∃ id off cs0, p = .ptr id off ∧ m.get id = some (.cells cs0) ∧ off + 1 ≤ cs0.length ∧
      m' = (m.set id (.cells (putAt cs0 off [c.nz0]))).mark id ([c.nz0].all (PVal.under1 (id + 1))) ∧ cs0[off]? = some c := by
    unfold writeAt at hwr
    split at hwr
    · rename_i id off
      split at hwr
      · rename_i cs0 hget
        obtain ⟨h1, h2⟩ := bif_some hwr
        simp only [Option.some.injEq] at h2
        have hle : off + 1 ≤ cs0.length := by simpa using h1
        refine ⟨id, off, cs0, rfl, hget, hle, h2.symm, ?_⟩
        simp only [readAt, hget] at hr
        obtain ⟨_, h4⟩ := bif_some hr
        simp only [Option.some.injEq] at h4
        have := congrArg (·[0]?) h4
        simpa using this
      · cases hwr
    · cases hwr
  obtain ⟨b, hb, ev⟩ := hv.inv_ptr
  obtain ⟨b', hb', hlg, ⟨cur, el, hcur, hlen, hcells⟩⟩ := hw.get hget
  obtain rfl : b = b' := by rw [hb] at hb'; exact Option.some.inj hb'
  obtain ⟨hcell, u, hu, hvr, hok⟩ := hcells off c hc
  have hu' : cur.toList[off]? = some u := by simpa using hu
  obtain ⟨b2, off2, cur2, el2, e2, hcur2, _, hst⟩ := write_ok (ca := ca) hw hwr (VR.ptr hb) [u] rfl (fun j c' hj => by
    cases j with
    | zero => simp at hj; subst hj; exact ⟨by rw [PVal.isCell_nz0]; exact hcell, u, rfl, hvr.nz0, OwnOk0_nz0 _ _ _⟩
    | succ j => simp at hj) (fun k => by simp [clCells, clV0_nz0])
  cases e2
  rw [hcur] at hcur2
  cases hcur2
  have hoff : off < cur.size := (Array.getElem?_eq_some_iff.1 hu).1
  have hworld : w.setRow b (cur.toList.take off ++ [u] ++ cur.toList.drop (off + [u].length)).toArray = w := by
    rw [← putAt_eq cur.toList off [u] (by simp; omega), putAt_same hu']
    exact setRow_self w b cur el (0, 0) hcur
  rw [hworld] at hst
  refine ⟨b, off, u, ev, by rw [cell_of_heap hcur]; exact hu, hcell, ?_⟩
  have hclV : ∀ k, clV c u k = clV0 c u k := fun k => by cases c <;> first | rfl | simp [PVal.isCell] at hcell
  have hclM : ∀ k, clV c u k + clM g w m' k = clM g w m k := by
    intro k
    have := clMs_repl (φ := g.φ) (w := w) (w' := w) (o' := .cells (putAt cs0 off [c.nz0])) hw.sorted (find_mem hget) (fun i o _ _ => rfl) k
    rw [phi_getD hb] at this
    have h1 : clObj w b (.cells cs0) k = clCells cs0 cur.toList k := by simp [clObj, heapCells, hcur]
    have h2 : clObj w b (.cells (putAt cs0 off [c.nz0])) k = clCells (putAt cs0 off [c.nz0]) cur.toList k := by simp [clObj, heapCells, hcur]
    have h3 := clCells_steal hc hu' k
    have h4 : clM g w m' k = clMs g.φ w (Mem.repl m.objs id (.cells (putAt cs0 off [c.nz0]))) k := by
      rw [hm']
      unfold clM; rw [(mark_objs _ _ _).1]; rfl
    rw [hclV]
    unfold clM at *
    omega
  exact {
    wi := hst.wi
    vr := hvr
    ok := by
      have : OwnOk g c u = OwnOk0 g c u := by cases c <;> first | rfl | simp [PVal.isCell] at hcell
      rw [this]; exact hok
    size := Nat.le_refl _
    φ := hst.φ
    lgle := hst.lgle
    bs := hst.bs
    claims := fun k _ => by have := hclM k; omega
    claims' := fun k hk => by have := hclM k; have := clM_lt hw hk; omega
    keepLg := fun _ _ h _ => h
    keepBlk := fun _ _ _ _ => rfl
    fresh := hst.fresh
    R := (by first | rfl | exact h.R | exact h'.R.trans h.R)
    keepNone := fun _ _ h _ => h
    os := ⟨rfl, rfl, rfl⟩ }

theorem sim_steal {t : TypeId} {x : Operand} {p c : PVal} {d : TypeDesc} {inf : TypeInfo} {m' : Mem} (hw : WI g w m) (hu : P.underlying t = some d) (hi : P.info? t = some inf) (hs : inf.size = 1)
    (ha : aggOk P t false = true) (hx : VR g p (ρ x)) (hr : readAt m p 1 = some [c]) (hwr : writeAt m p [c.nz0] = some m') :
    Res P ρ ⟨dst, .load t x, ty, pos, after, guard⟩ ca g w m c m' := by
  obtain ⟨b, off, u, ex, hcell, _, hst⟩ := steal_ok (ca := ca) hw hr hwr hx
  have hrun := run_loadVar_cells (P := P) (w := w) (agg := false) (a := ⟨b, off, none⟩) (xs := [u]) hu hi hs ha (.inr rfl) rfl (fun j x hj => by
    cases j with
    | zero => simp at hj; subst hj; rw [add_plain]; exact hcell
    | succ j => simp at hj)
  refine ⟨_, _, u, .inl ?_, hst⟩
  simp [execOp, Instr.loadAt, ex, Instr.sureAddr, hrun]

end
end Go.Ev

/- Rows that become values. -/
namespace Go.Ev

theorem rem_sub (l : List (Nat × MObj)) (id : Nat) : (Mem.rem l id).Sublist l := by
  induction l with
  | nil => exact List.Sublist.refl _
  | cons x xs ih =>
    obtain ⟨s, v⟩ := x
    simp only [Mem.rem]
    cases hb : s.beq id with
    | true => simp
    | false => simp only [cond_false]; exact ih.cons_cons _

theorem rem_not {l : List (Nat × MObj)} (hs : l.Pairwise (fun a b => b.1 < a.1)) {id i : Nat} {o : MObj} (h : (i, o) ∈ Mem.rem l id) : i ≠ id := by
  induction l with
  | nil => simp [Mem.rem] at h
  | cons x xs ih =>
    obtain ⟨s, v⟩ := x
    rw [List.pairwise_cons] at hs
    simp only [Mem.rem] at h
    cases hb : s.beq id with
    | true =>
      obtain rfl : s = id := Nat.eq_of_beq_eq_true hb
      rw [hb] at h; simp only [cond_true] at h
      have := hs.1 _ h
      simp at this; omega
    | false =>
      rw [hb] at h; simp only [cond_false] at h
      rcases List.mem_cons.1 h with h | h
      · cases h; intro e; subst e; simp at hb
      · exact ih hs.2 h

theorem clMs_sub {φ : List Nat} {w : World} {l l' : List (Nat × MObj)} (h : l'.Sublist l) (k : Nat) : clMs φ w l' k ≤ clMs φ w l k := by
  induction h with
  | slnil => exact Nat.le_refl _
  | cons a _ ih => obtain ⟨i, o⟩ := a; simp only [clMs]; omega
  | cons_cons a _ ih => obtain ⟨i, o⟩ := a; simp only [clMs]; omega

section
variable {P : Program} {ρ : Operand → Value} {g : Gh} {w : World} {m : Mem} {dst : Option Tmp} {ty : TypeId} {pos : String} {after : Array Edge} {guard : Option (Nat × Bool)} {ca : Nat → Nat}

/-- An object whose cells won't be written any more. -/
theorem WI.tellObj {id b : Nat} {cs : List PVal} {c : Array Value} {el : TypeId} (hw : WI g w m) (hget : m.get id = some (.cells cs)) (hb : g.φ[id]? = some b) (hlg : g.lg b = none) (hc : w.heap[b]? = some (.cells c el (0, 0))) :
    WI (g.tell b ⟨c.toList, c.size, el, false⟩) w (m.del id) := by
  have hle := Gh.tell_new (row := ⟨c.toList, c.size, el, false⟩) hlg
  have hmem := find_mem hget
  have hsub := rem_sub m.objs id
  have hlgk : ∀ k, k ≠ b → (g.tell b ⟨c.toList, c.size, el, false⟩).lg k = g.lg k := fun k hk => by simp [Gh.tell, hk]
  refine ⟨fun k row e => ?_, hw.len, hw.sorted.sublist hsub, fun e he => hw.bound e (hsub.subset he), fun i o hi => ?_, fun i o j o' k hi hj => hw.inj i o j o' k (hsub.subset hi) (hsub.subset hj), fun i o hi => hw.scope i o (hsub.subset hi), hw.phi, hw.bsz⟩
  · by_cases hk : k = b
    · subst hk
      simp [Gh.tell] at e; subst e
      exact ⟨c, (0, 0), hc, rfl, List.prefix_refl _, fun _ => rfl⟩
    · rw [hlgk k hk] at e
      exact hw.lg k row e
  · have hne := rem_not hw.sorted hi
    obtain ⟨k, hk, hn, hr⟩ := hw.obj i o (hsub.subset hi)
    have hkb : k ≠ b := fun e => by subst e; exact hne (hw.inj i o id _ k (hsub.subset hi) hmem hk hb)
    refine ⟨k, hk, (hlgk k hkb).trans hn, hr.mono hle rfl fun p v h _ => h.of_claim fun k' hk' => ?_⟩
    refine hlgk k' fun e => ?_
    subst e
    obtain ⟨row, hrow⟩ := claim0_lg h hk'
    rw [hlg] at hrow; cases hrow

theorem freeze_ok {p q : PVal} {v : Value} {m' : Mem} (hw : WI g w m) (hv : Arg g p v) (hca : ∀ b, clV p v b ≤ ca b) (h : freezeV m p = some (q, m')) : ∃ g', Step ca g w m q m' g' w v ∧ ∀ b row, g.lg b = some row → g'.lg b = some row := by
  unfold freezeV at h
  split at h
  · rename_i sz id off len cap
    simp only [Option.map_eq_some_iff, Prod.mk.injEq] at h
    obtain ⟨xs, hxs, rfl, rfl⟩ := h
    simp only [elems] at hxs
    obtain ⟨_, hxs⟩ := bif_some hxs
    split at hxs
    · rename_i cs hget
      obtain ⟨hb2, hxs⟩ := bif_some hxs
      simp only [Bool.and_eq_true, Nat.ble_eq] at hb2
      obtain ⟨hfit, hflat⟩ := hb2
      simp only [Option.some.injEq] at hxs
      subst hxs
      obtain ⟨a, cap', rfl, h1, h2, b, hbb, hne, _⟩ := hv.vr.inv_oslice
      obtain ⟨b', hb', hlg, ⟨c, el, hc, hlen, hcells⟩⟩ := hw.get hget
      obtain rfl : b = b' := by rw [hbb] at hb'; exact Option.some.inj hb'
      have hle := Gh.tell_new (row := ⟨c.toList, c.size, el, false⟩) hlg
      have hgl : (g.tell b ⟨c.toList, c.size, el, false⟩).lg b = some ⟨c.toList, c.size, el, false⟩ := by simp [Gh.tell]
      have hsub : ∀ (i : Nat) x, (pieces sz len ((cs.drop off).map PVal.nz0))[i]? = some x → x.length = sz ∧ ∀ (j : Nat) q, x[j]? = some q → ∃ q0, cs[off + i * sz + j]? = some q0 ∧ q = q0.nz0 ∧ q0.flat = true := fun i x hi => by
        obtain ⟨h1, rfl⟩ := pieces_get hi
        have hle : i * sz + sz ≤ len * sz := by
          calc i * sz + sz = (i + 1) * sz := by rw [Nat.add_mul, Nat.one_mul]
            _ ≤ len * sz := Nat.mul_le_mul_right _ h1
        refine ⟨by simp; omega, fun j q hj => ?_⟩
        have hjs : j < sz := by have := (List.getElem?_eq_some_iff.1 hj).1; simp at this; omega
        rw [List.getElem?_take_of_lt hjs, List.getElem?_drop, List.getElem?_map, List.getElem?_drop] at hj
        cases hx : cs[off + (i * sz + j)]? with
        | none => rw [hx] at hj; cases hj
        | some q0 =>
          rw [hx] at hj
          simp only [Option.map_some, Option.some.injEq] at hj
          refine ⟨q0, by rw [Nat.add_assoc]; exact hx, hj.symm, ?_⟩
          refine List.all_eq_true.1 hflat q0 ?_
          refine List.mem_iff_getElem?.2 ⟨i * sz + j, ?_⟩
          rw [List.getElem?_take_of_lt (by omega), List.getElem?_drop]; exact hx
      have hnz : ∀ q0 : PVal, q0.flat = true → q0.nz0.flat = true := fun q0 h => by
        cases q0 <;> simp [PVal.nz0, PVal.flat] at h ⊢ <;> exact h
      refine ⟨g.tell b ⟨c.toList, c.size, el, false⟩, {
        wi := hw.tellObj hget hbb hlg hc
        vr := ?_
        ok := OwnOk_of (by simp) (by simp)
        size := Nat.le_refl _
        φ := ⟨[], by simp [Gh.tell], fun b h => by simp at h⟩
        lgle := hle.lg
        bs := hle.bs
        claims := fun k _ => by
          rw [clV_zero_of (by simp) (by simp)]
          have : clM (g.tell b ⟨c.toList, c.size, el, false⟩) w (m.del id) k ≤ clM g w m k := clMs_sub (rem_sub m.objs id) k
          omega
        claims' := fun k hk => by
          rw [clV_zero_of (by simp) (by simp)]
          have : clM (g.tell b ⟨c.toList, c.size, el, false⟩) w (m.del id) k ≤ clM g w m k := clMs_sub (rem_sub m.objs id) k
          have := clM_lt hw hk
          omega
        keepLg := fun k row e _ => by
          have : k ≠ b := fun h => by subst h; rw [hlg] at e; cases e
          simp [Gh.tell, this, e]
        keepBlk := fun _ _ _ _ => rfl
        fresh := .refl _
        R := (by first | rfl | exact h.R | exact h'.R.trans h.R)
        keepNone := fun k _ h hno => by
          have : k ≠ b := fun e => by subst e; exact hno id hbb
          simp [Gh.tell, this, h]
        os := ⟨rfl, rfl, rfl⟩ }, fun k row e => ?_⟩
      rotate_left 1
      · have : k ≠ b := fun h => by subst h; rw [hlg] at e; cases e
        simp [Gh.tell, this, e]
      have hpl : (pieces sz len ((cs.drop off).map PVal.nz0)).length = len := pieces_len
      by_cases hl0 : len = 0
      · subst hl0
        exact .slice0 (by simp)
      · obtain rfl := hne (by omega)
        have := VR.slice (g := g.tell b ⟨c.toList, c.size, el, false⟩) (xs := pieces sz len ((cs.drop off).map PVal.nz0)) (c := .no) (b := b) (off := off) (cap := cap') (row := ⟨c.toList, c.size, el, false⟩) sz
          (fun i j => c.toList.getD (off + i * sz + j) undef) (by intro e; rw [e] at hpl; simp at hpl; omega) hgl (by omega) (by simp)
          (fun x hx => by
            obtain ⟨i, hi⟩ := List.mem_iff_getElem?.1 hx
            refine ⟨(hsub i x hi).1, fun q hq => ?_⟩
            obtain ⟨j, hj⟩ := List.mem_iff_getElem?.1 hq
            obtain ⟨q0, _, rfl, hf⟩ := (hsub i x hi).2 j q hj
            exact hnz q0 hf)
          (fun i x j q hi hj => by
            obtain ⟨q0, hq0, rfl, _⟩ := (hsub i x hi).2 j q hj
            obtain ⟨_, u, hu, _, _⟩ := hcells _ _ hq0
            have hu' : c.toList[off + i * sz + j]? = some u := by simpa using hu
            simp only [List.getD, hu']; rfl)
          (fun i x j q hi hj => by
            obtain ⟨q0, hq0, rfl, _⟩ := (hsub i x hi).2 j q hj
            obtain ⟨_, u, hu, hvr, _⟩ := hcells _ _ hq0
            have hu' : c.toList[off + i * sz + j]? = some u := by simpa using hu
            have : c.toList.getD (off + i * sz + j) undef = u := by simp [List.getD, hu']
            rw [this]
            exact (hvr.mono hle).nz0)
        rw [hpl] at this
        exact this
    · cases hxs
  · simp only [Option.some.injEq, Prod.mk.injEq] at h
    obtain ⟨rfl, rfl⟩ := h
    exact ⟨g, Step.pure hw hv.vr hv.ok hca, fun _ _ e => e⟩

/-- One step after another, the first one's value in the second's hands. -/
theorem Step.trans {ca' : Nat → Nat} {r r' : PVal} {m' m'' : Mem} {g' g'' : Gh} {w' w'' : World} {v v' : Value} (hw : WI g w m) (h : Step ca g w m r m' g' w' v) (h' : Step ca' g' w' m' r' m'' g'' w'' v') (hca : ∀ b, ca' b ≤ clV r v b) : Step ca g w m r' m'' g'' w'' v' where
  wi := h'.wi
  vr := h'.vr
  ok := h'.ok
  size := Nat.le_trans h.size h'.size
  φ := by
    obtain ⟨e1, h1, n1⟩ := h.φ
    obtain ⟨e2, h2, n2⟩ := h'.φ
    exact ⟨e1 ++ e2, by rw [h2, h1, List.append_assoc], n1.append n2 h1 h.size⟩
  bs := fun id b e => (h'.bs id b (h.le.φ id b e)).trans (h.bs id b e)
  lgle := fun b row e => by
    obtain ⟨r1, e1, p1⟩ := h.lgle b row e
    obtain ⟨r2, e2, p2⟩ := h'.lgle b r1 e1
    exact ⟨r2, e2, p1.trans p2⟩
  claims := fun b hb => by
    have h1 := h.claims b hb
    have h2 := h'.claims b (by have := h.size; omega)
    have := hca b
    omega
  claims' := fun b hb => by
    by_cases hb' : b < w'.heap.size
    · have h1 := h.claims' b hb
      have h2 := h'.claims b hb'
      have := hca b
      omega
    · exact h'.claims' b (by omega)
  keepLg := fun b row e h0 => by
    have e1 := h.keepLg b row e h0
    have hbw := hw.lg_lt e
    refine h'.keepLg b row e1 ?_
    have h1 := h.claims b hbw
    have := hca b
    omega
  keepBlk := fun b hb h0 hno => by
    have h1 := h.keepBlk b hb h0 hno
    have hlt : b < w'.heap.size := by have := h.size; omega
    rw [← h1]
    refine h'.keepBlk b hlt ?_ fun id e => ?_
    · have h2 := h.claims b hb
      have := hca b
      omega
    · obtain ⟨e1, he, n1⟩ := h.φ
      rw [he] at e
      exact n1.not hb hno e
  fresh := h.fresh.trans h'.fresh h.size
  R := (by first | rfl | exact h.R | exact h'.R.trans h.R)
  keepNone := fun b hb hn hno => by
    refine h'.keepNone b (by have := h.size; omega) (h.keepNone b hb hn hno) fun id e => ?_
    obtain ⟨e1, he, n1⟩ := h.φ
    rw [he] at e
    exact n1.not hb hno e
  os := ⟨h'.os.1.trans h.os.1, h'.os.2.1.trans h.os.2.1, h'.os.2.2.trans h.os.2.2⟩


theorem sim_storeFrz {t : TypeId} {a x : Operand} {p q q' : PVal} {keep : Bool} {n : Nat} {inf : TypeInfo} {cs : List PVal} {m1 m' : Mem} (hw : WI g w m) (hi : P.info? t = some inf) (hs : inf.size = n)
    (ha : VR g p (ρ a)) (hx : Arg g q (ρ x)) (hc : ∀ b, clV q (ρ x) b ≤ ca b) (hf : freezeV m q = some (q', m1)) (he : cellsOf (bif keep then q' else q'.nz1) = some cs) (hn : cs.length = n) (hwr : writeAt m1 p cs = some m') :
    Res P ρ ⟨dst, .store t a x, ty, pos, after, guard⟩ ca g w m (.tuple []) m' := by
  obtain ⟨g1, h1, _⟩ := freeze_ok hw hx hc hf
  obtain ⟨g2, w2, v2, hr, h2⟩ := sim_store (P := P) (ρ := ρ) (dst := dst) (ty := ty) (pos := pos) (after := after) (guard := guard) (ca := clV q' (ρ x)) (m' := m') (a := a) (x := x) (keep := keep) h1.wi hi hs (ha.mono h1.le) ⟨h1.vr, h1.ok⟩ (fun b => Nat.le_refl _) he hn hwr
  exact ⟨g2, w2, v2, hr, h1.trans hw h2 fun b => Nat.le_refl _⟩

end
end Go.Ev

/- What is the same, cell by cell. -/
namespace Go.Ev

def aggTy (P : Program) (t : TypeId) : Bool :=
  match P.underlying t with
  | some (.struct _) | some (.array _ _) => true
  | _ => false
def oneTy (P : Program) (t : TypeId) (n : Nat) : Bool := aggOk P t (aggTy P t) && (aggTy P t || n.beq 1)
def tiledF (P : Program) (n : Nat) : Nat → List Field → Bool
  | off, [] => off.beq n
  | off, f :: fs => f.offset.beq off && (match P.info? f.type with | some i => tiledF P n (off + i.size) fs | none => false)
/-- Are two values of the type the same just where their cells are? -/
def eqOk (P : Program) : Nat → TypeId → Nat → Bool
  | 0, _, _ => false
  | d + 1, t, n => match P.underlying t with
    | some (.int _) => n.beq 1
    | some (.array len e) => (match P.info? e with | some i => n.beq (len * i.size) && oneTy P e i.size && eqOk P d e i.size | none => false)
    | some (.struct fs) => !P.stoodInHeld t && tiledF P n 0 fs.toList && fs.toList.all (fun f => f.name != "_" && (match P.info? f.type with | some i => oneTy P f.type i.size && eqOk P d f.type i.size | none => false))
    | _ => false

theorem sameCell_nz {p q : PVal} {t : Bool} (h : sameCell p q = some t) : sameCell p.nz0 q.nz0 = some t := by
  cases p <;> first | (simp [sameCell] at h; done) | (cases q <;> first | (simp [sameCell] at h; done) | exact h)
theorem sameCells_nz : ∀ {ps qs : List PVal} {t : Bool}, sameCells ps qs = some t → sameCells (ps.map PVal.nz0) (qs.map PVal.nz0) = some t
  | [], [], t, h => h
  | [], _ :: _, t, h => by simp [sameCells] at h
  | _ :: _, [], t, h => by simp [sameCells] at h
  | p :: ps, q :: qs, t, h => by
    simp only [sameCells, Option.bind_eq_some_iff, Option.map_eq_some_iff] at h
    obtain ⟨a, ha, b, hb, rfl⟩ := h
    simp [sameCells, sameCell_nz ha, sameCells_nz hb]
theorem sameCells_len : ∀ {ps qs : List PVal} {t : Bool}, sameCells ps qs = some t → ps.length = qs.length
  | [], [], t, h => rfl
  | [], _ :: _, t, h => by simp [sameCells] at h
  | _ :: _, [], t, h => by simp [sameCells] at h
  | p :: ps, q :: qs, t, h => by
    simp only [sameCells, Option.bind_eq_some_iff, Option.map_eq_some_iff] at h
    obtain ⟨a, ha, b, hb, rfl⟩ := h
    simp [sameCells_len hb]
theorem sameCells_split : ∀ {k : Nat} {ps qs : List PVal} {t : Bool}, sameCells ps qs = some t → ∃ a b, sameCells (ps.take k) (qs.take k) = some a ∧ sameCells (ps.drop k) (qs.drop k) = some b ∧ t = (a && b)
  | 0, ps, qs, t, h => ⟨true, t, by simp [sameCells], by simpa using h, by simp⟩
  | k + 1, [], [], t, h => ⟨true, t, by simp [sameCells], by simpa using h, by simp⟩
  | k + 1, [], _ :: _, t, h => by simp [sameCells] at h
  | k + 1, _ :: _, [], t, h => by simp [sameCells] at h
  | k + 1, p :: ps, q :: qs, t, h => by
    simp only [sameCells, Option.bind_eq_some_iff, Option.map_eq_some_iff] at h
    obtain ⟨a, ha, b, hb, rfl⟩ := h
    obtain ⟨c, d, hc, hd, rfl⟩ := sameCells_split (k := k) hb
    exact ⟨a && c, d, by simp [sameCells, ha, hc], by simpa using hd, by simp [Bool.and_assoc]⟩

/-- A value's cells, by whether it is of many. -/
def CellsAre (agg : Bool) (p : PVal) (ps : List PVal) : Prop := if agg then p = .agg ps else ps = [p]

section
variable {P : Program} {g : Gh} {w : World}

def EqAt' (P : Program) (dd : Nat) (t : TypeId) (agg : Bool) (n : Nat) : Prop :=
  ∀ (g : Gh) (w : World) (p q : PVal) (x y : Value) (ps qs : List PVal) (b : Bool), VR g p x → VR g q y → CellsAre agg p ps → CellsAre agg q qs → (∀ c, c ∈ ps → c.isInt = true) → ps.length = n → sameCells ps qs = some b → (Op.equalIn dd t x y).run P w = .ok b w

theorem aggOk_someD {t : TypeId} {agg : Bool} (h : aggOk P t agg = true) : ∃ d, P.underlying t = some d := by
  unfold aggOk at h
  cases hu : P.underlying t with
  | none => rw [hu] at h; cases h
  | some d => exact ⟨d, rfl⟩

theorem info_of_oneTy {t : TypeId} {n : Nat} (h : oneTy P t n = true) : (∃ d, P.underlying t = some d) ∧ aggOk P t (aggTy P t) = true ∧ (aggTy P t = true ∨ n = 1) := by
  simp only [oneTy, Bool.and_eq_true, Bool.or_eq_true] at h
  refine ⟨aggOk_someD h.1, h.1, h.2.imp id Nat.eq_of_beq_eq_true⟩
theorem int_part {ps : List PVal} {off n : Nat} (h : ∀ c, c ∈ ps → c.isInt = true) {c : PVal} (hc : c ∈ ((ps.drop off).take n).map PVal.nz0) : c.isInt = true := by
  obtain ⟨d, hd, rfl⟩ := List.mem_map.1 hc
  have := h d (List.mem_of_mem_drop (List.mem_of_mem_take hd))
  cases d <;> simp [PVal.isInt] at this ⊢
  rfl

/-- Two parts. -/
theorem eq_parts {dd off : Nat} {t : TypeId} {i : TypeInfo} {ps qs : List PVal} {xs ys : Array Value} {a : Bool} (he : EqAt' P dd t (aggTy P t) i.size) (hi : P.info? t = some i) (ho : oneTy P t i.size = true)
    (hp : VR g (.agg ps) (.agg xs)) (hq : VR g (.agg qs) (.agg ys)) (hint : ∀ c, c ∈ ps → c.isInt = true) (hl : off + i.size ≤ ps.length) (hs : sameCells ((ps.drop off).take i.size) ((qs.drop off).take i.size) = some a) :
    ∃ u v, (part t xs off).run P w = .ok u w ∧ (part t ys off).run P w = .ok v w ∧ (Op.equalIn dd t u v).run P w = .ok a w := by
  obtain ⟨⟨d, hd⟩, hag, h1⟩ := info_of_oneTy ho
  cases hp with
  | agg hlp hcp hvp =>
    cases hq with
    | agg hlq hcq hvq =>
      have hlen := sameCells_len hs
      have hlp' : ((ps.drop off).take i.size).length = i.size := by simp; omega
      have hql : off + i.size ≤ qs.length ∨ i.size = 0 := by
        rw [hlp'] at hlen
        simp at hlen; omega
      have key : ∀ (cs : List PVal), (cs.drop off).length ≥ i.size → ∃ r rs, cell1 (aggTy P t) ((cs.drop off).take i.size) = some r ∧ CellsAre (aggTy P t) r rs ∧ rs = ((cs.drop off).take i.size).map PVal.nz0 := fun cs hcs => by
        cases hagg : aggTy P t with
        | true => exact ⟨_, _, rfl, rfl, rfl⟩
        | false =>
          rw [hagg] at h1
          have h1 : i.size = 1 := by simpa using h1
          rw [h1] at hcs ⊢
          cases hx : cs.drop off with
          | nil => rw [hx] at hcs; simp at hcs
          | cons c l => exact ⟨c.nz0, [c.nz0], by simp [cell1], rfl, by simp⟩
      by_cases h0 : i.size = 0
      · -- nothing to be told apart
        have hagg : aggTy P t = true := by
          rcases h1 with h | h
          · exact h
          · omega
        have hisA : (isAgg t).run P w = .ok true w := by
          unfold aggOk at hag
          rw [hd, hagg] at hag
          cases d <;> simp at hag <;> simp [isAgg, run_underlying' hd]
        refine ⟨.agg (xs.extract off (off + 0)), .agg (ys.extract off (off + 0)), by simp [part, hisA, run_sizeOf' hi, h0], by simp [part, hisA, run_sizeOf' hi, h0], ?_⟩
        have e1 : xs.extract off (off + 0) = #[] := by apply Array.ext'; simp
        have e2 : ys.extract off (off + 0) = #[] := by apply Array.ext'; simp
        rw [e1, e2]
        refine he g w (.agg []) (.agg []) _ _ [] [] a (.agg rfl (fun c h => by simp at h) fun i c h => by simp at h) (.agg rfl (fun c h => by simp at h) fun i c h => by simp at h) ?_ ?_ (fun c h => by simp at h) (by simp [h0]) ?_
        · rw [hagg]; rfl
        · rw [hagg]; rfl
        · rw [h0] at hs; simpa [sameCells] using hs
      · have hql' : off + i.size ≤ qs.length := by omega
        obtain ⟨r, rs, hr, hra, hrs⟩ := key ps (by simp; omega)
        obtain ⟨r', rs', hr', hra', hrs'⟩ := key qs (by simp; omega)
        obtain ⟨u, hu, hvu, _, _⟩ := run_part (w := w) hd hi rfl hag h1 hlp hcp hvp hl hr
        obtain ⟨v, hv, hvv, _, _⟩ := run_part (w := w) hd hi rfl hag h1 hlq hcq hvq hql' hr'
        refine ⟨u, v, hu, hv, he g w r r' u v rs rs' a hvu hvv hra hra' (fun c hc => by rw [hrs] at hc; exact int_part hint hc) (by rw [hrs]; simp; omega) ?_⟩
        rw [hrs, hrs']; exact sameCells_nz hs

theorem eq_items {dd : Nat} {e : TypeId} {i : TypeInfo} {ps qs : List PVal} {xs ys : Array Value} (he : EqAt' P dd e (aggTy P e) i.size) (hi : P.info? e = some i) (ho : oneTy P e i.size = true)
    (hp : VR g (.agg ps) (.agg xs)) (hq : VR g (.agg qs) (.agg ys)) (hint : ∀ c, c ∈ ps → c.isInt = true) : ∀ (k s : Nat) (b : Bool), ps.length = (s + k) * i.size → sameCells (ps.drop (s * i.size)) (qs.drop (s * i.size)) = some b →
    (Op.eqItems dd e i.size xs ys (List.range' s k)).run P w = .ok b w
  | 0, s, b, hl, h => by
    have h1 : ps.drop (s * i.size) = [] := List.drop_eq_nil_of_le (by simpa using Nat.le_of_eq hl)
    rw [h1] at h
    have h2 := sameCells_len h
    have h3 : qs.drop (s * i.size) = [] := List.eq_nil_of_length_eq_zero (by simpa using h2.symm)
    rw [h3] at h
    simp only [sameCells, Option.some.injEq] at h
    subst h
    simp [Op.eqItems]
  | k + 1, s, b, hl, h => by
    have hm : (s + (k + 1)) * i.size = s * i.size + i.size + k * i.size := by simp only [Nat.add_mul, Nat.one_mul]; omega
    obtain ⟨a, c, ha, hc, rfl⟩ := sameCells_split (k := i.size) h
    obtain ⟨u, v, h1, h2, h3⟩ := eq_parts (w := w) (off := s * i.size) he hi ho hp hq hint (by omega) ha
    rw [List.drop_drop, List.drop_drop] at hc
    have e1 : s * i.size + i.size = (s + 1) * i.size := by rw [Nat.add_mul, Nat.one_mul]
    rw [e1] at hc
    have ih := eq_items he hi ho hp hq hint k (s + 1) c (by rw [hl, show s + (k + 1) = s + 1 + k by omega]) hc
    simp only [List.range'_succ, Op.eqItems, Sem.run_bind, h1, h2, h3, Result.andThen_ok]
    cases a with
    | true => simpa using ih
    | false => simp

theorem eq_fields {dd n : Nat} {ps qs : List PVal} {xs ys : Array Value} (hp : VR g (.agg ps) (.agg xs)) (hq : VR g (.agg qs) (.agg ys)) (hint : ∀ c, c ∈ ps → c.isInt = true) (hl : ps.length = n) : ∀ (fs : List Field) (off : Nat) (b : Bool),
    (∀ f, f ∈ fs → f.name ≠ "_" ∧ ∃ i, P.info? f.type = some i ∧ oneTy P f.type i.size = true ∧ EqAt' P dd f.type (aggTy P f.type) i.size) → tiledF P n off fs = true →
    sameCells (ps.drop off) (qs.drop off) = some b → (Op.eqFields dd xs ys fs).run P w = .ok b w
  | [], off, b, _, ht, h => by
    obtain rfl := Nat.eq_of_beq_eq_true ht
    have h1 : ps.drop off = [] := List.drop_eq_nil_of_le (by omega)
    rw [h1] at h
    have h2 := sameCells_len h
    have h3 : qs.drop off = [] := List.eq_nil_of_length_eq_zero (by simpa using h2.symm)
    rw [h3] at h
    simp only [sameCells, Option.some.injEq] at h
    subst h
    simp [Op.eqFields]
  | f :: fs, off, b, hf, ht, h => by
    obtain ⟨hn, i, hi, ho, he⟩ := hf f List.mem_cons_self
    simp only [tiledF, Bool.and_eq_true, hi] at ht
    have hoff := Nat.eq_of_beq_eq_true ht.1
    have hle : off + i.size ≤ ps.length := by
      have key : ∀ (fs : List Field) (o : Nat), tiledF P n o fs = true → o ≤ n := by
        intro fs
        induction fs with
        | nil => intro o h; exact Nat.le_of_eq (Nat.eq_of_beq_eq_true h)
        | cons f fs ih =>
          intro o h
          simp only [tiledF, Bool.and_eq_true] at h
          split at h
          · rename_i i' hi'
            have := ih _ h.2; omega
          · exact absurd h.2 Bool.false_ne_true
      have := key _ _ ht.2; omega
    obtain ⟨a, c, ha, hc, rfl⟩ := sameCells_split (k := i.size) h
    obtain ⟨u, v, h1, h2, h3⟩ := eq_parts (w := w) (off := off) he hi ho hp hq hint hle ha
    rw [List.drop_drop, List.drop_drop] at hc
    have ih := eq_fields hp hq hint hl fs (off + i.size) c (fun f hm => hf f (List.mem_cons_of_mem _ hm)) ht.2 hc
    simp only [Op.eqFields, hn, ne_eq, not_false_eq_true, if_true, Sem.run_bind, hoff, h1, h2, h3, Result.andThen_ok]
    cases a with
    | true => simpa using ih
    | false => simp

theorem eq_ok : ∀ (d k : Nat) (t : TypeId) (n : Nat), eqOk P d t n = true → EqAt' P (k + d) t (aggTy P t) n
  | 0, _, _, _, h => by simp [eqOk] at h
  | d + 1, k, t, n, h => by
    intro g w p q x y ps qs b hp hq hps hqs hint hl hs
    have hk : k + (d + 1) = (k + d) + 1 := rfl
    rw [hk]
    simp only [eqOk] at h
    cases hu : P.underlying t with
    | none => rw [hu] at h; cases h
    | some dd =>
      rw [hu] at h
      cases dd with
      | int kk =>
        have hagg : aggTy P t = false := by unfold aggTy; rw [hu]
        rw [hagg] at hps hqs
        have hps : ps = [p] := hps
        have hqs : qs = [q] := hqs
        subst hps hqs
        have hc : sameCell p q = some b := by
          simp only [sameCells, Option.bind_eq_some_iff, Option.map_eq_some_iff] at hs
          obtain ⟨a, ha, b', hb', rfl⟩ := hs
          cases hb'
          simpa using ha
        have hi := hint p List.mem_cons_self
        cases p <;> simp [PVal.isInt] at hi
        cases q <;> first | (simp [sameCell] at hc; done) | skip
        rename_i k1 n1 k2 n2
        obtain rfl := hp.inv_int
        obtain rfl := hq.inv_int
        by_cases hkk : k1 = k2
        · subst hkk
          simp [sameCell] at hc; subst hc
          simp [Op.equalIn, run_underlying' hu]
        · simp [sameCell, hkk] at hc
      | array len e =>
        have hagg : aggTy P t = true := by unfold aggTy; rw [hu]
        rw [hagg] at hps hqs
        have hps : p = .agg ps := hps
        have hqs : q = .agg qs := hqs
        subst hps hqs
        dsimp only at h
        split at h
        · rename_i i hi
          simp only [Bool.and_eq_true] at h
          obtain ⟨xs, rfl, _⟩ := hp.inv_agg
          obtain ⟨ys, rfl, _⟩ := hq.inv_agg
          have hn := Nat.eq_of_beq_eq_true h.1.1
          have hce : P.cellsOf e = i.size := by simp [Program.cellsOf, hi]
          rw [run_equalIn_array w (k + d) xs ys hu hi, hce, List.range_eq_range']
          exact eq_items (eq_ok d k e i.size h.2) hi h.1.2 hp hq hint len 0 b (by rw [hl, hn, Nat.zero_add]) (by simpa using hs)
        · cases h
      | struct fs =>
        have hagg : aggTy P t = true := by unfold aggTy; rw [hu]
        rw [hagg] at hps hqs
        have hps : p = .agg ps := hps
        have hqs : q = .agg qs := hqs
        subst hps hqs
        dsimp only at h
        simp only [Bool.and_eq_true, Bool.not_eq_true'] at h
        obtain ⟨xs, rfl, _⟩ := hp.inv_agg
        obtain ⟨ys, rfl, _⟩ := hq.inv_agg
        have hfs : P.fieldsOf t = fs := by simp [Program.fieldsOf, hu]
        rw [run_equalIn_struct w (k + d) t xs ys (by rw [hfs]; exact hu) h.1.1, hfs]
        refine eq_fields hp hq hint hl fs.toList 0 b (fun f hf => ?_) h.1.2 (by simpa using hs)
        have := List.all_eq_true.1 h.2 f hf
        simp only [Bool.and_eq_true, bne_iff_ne, ne_eq] at this
        obtain ⟨hn, h2⟩ := this
        split at h2
        · rename_i i hi
          simp only [Bool.and_eq_true] at h2
          exact ⟨hn, i, hi, h2.1, eq_ok d k f.type i.size h2.2⟩
        · cases h2
      | _ => exact absurd h Bool.false_ne_true

end
end Go.Ev

/- Keys of maps, and setting them. -/
namespace Go.Ev

def findIx (k : PVal) : List (PVal × PVal) → Option (Option Nat)
  | [] => some none
  | e :: es => (sameVal k e.1).bind fun b => bif b then some (some 0) else (findIx k es).map fun o => o.map (· + 1)

theorem findKey_ix {k : PVal} : ∀ {es : List (PVal × PVal)} {r : Option PVal}, findKey k es = some r → ∃ o, findIx k es = some o ∧ (∀ j, o = some j → ∃ e, es[j]? = some e ∧ r = some e.2) ∧ (o = none → r = none)
  | [], r, h => by
    simp only [findKey, Option.some.injEq] at h
    exact ⟨none, rfl, (fun j e => by cases e), fun _ => h.symm⟩
  | e :: es, r, h => by
    simp only [findKey, Option.bind_eq_some_iff] at h
    obtain ⟨b, hb, h⟩ := h
    cases b with
    | true =>
      simp only [cond_true, Option.some.injEq] at h
      exact ⟨some 0, by simp [findIx, hb], (fun j ej => by cases ej; exact ⟨e, rfl, h.symm⟩), fun e => by cases e⟩
    | false =>
      obtain ⟨o, h1, h2, h3⟩ := findKey_ix (es := es) h
      refine ⟨o.map (· + 1), by simp [findIx, hb, h1], fun j ej => ?_, fun ho => h3 (by simpa using ho)⟩
      cases o with
      | none => cases ej
      | some i =>
        simp only [Option.map_some, Option.some.injEq] at ej
        subst ej
        simpa using h2 i rfl

theorem setKey_ix {k u : PVal} : ∀ {es es' : List (PVal × PVal)}, setKey k u es = some es' → ∃ o, findIx k es = some o ∧ es' = (match o with | none => es ++ [(k, u)] | some j => es.set j (k, u))
  | [], es', h => by
    simp only [setKey, Option.some.injEq] at h
    exact ⟨none, rfl, h.symm⟩
  | e :: es, es', h => by
    simp only [setKey, Option.bind_eq_some_iff] at h
    obtain ⟨b, hb, h⟩ := h
    cases b with
    | true =>
      simp only [cond_true, Option.some.injEq] at h
      exact ⟨some 0, by simp [findIx, hb], h.symm⟩
    | false =>
      simp only [cond_false, Option.map_eq_some_iff] at h
      obtain ⟨es2, h1, rfl⟩ := h
      obtain ⟨o, h2, rfl⟩ := setKey_ix h1
      refine ⟨o.map (· + 1), by simp [findIx, hb, h2], ?_⟩
      cases o <;> rfl

theorem ix_same {k : PVal} : ∀ {es : List (PVal × PVal)} {j : Nat}, findIx k es = some (some j) → ∃ e, es[j]? = some e ∧ sameVal k e.1 = some true
  | [], j, h => by simp [findIx] at h
  | e :: es, j, h => by
    simp only [findIx, Option.bind_eq_some_iff] at h
    obtain ⟨b, hb, h⟩ := h
    cases b with
    | true =>
      simp only [cond_true, Option.some.injEq] at h
      subst h
      exact ⟨e, rfl, hb⟩
    | false =>
      have h : (findIx k es).map (fun o => o.map (· + 1)) = some (some j) := h
      cases h1 : findIx k es with
      | none => rw [h1] at h; cases h
      | some o =>
       rw [h1] at h
       cases o with
       | none => cases h
       | some i =>
        simp only [Option.map_some, Option.some.injEq] at h
        subst h
        obtain ⟨e', h3, h4⟩ := ix_same h1
        exact ⟨e', by simpa using h3, h4⟩

section
variable {P : Program} {ρ : Operand → Value} {g : Gh} {w : World} {m : Mem} {dst : Option Tmp} {ty : TypeId} {pos : String} {after : Array Edge} {guard : Option (Nat × Bool)} {ca : Nat → Nat}

def EntsR (g : Gh) (es : List (PVal × PVal)) (ents : List MapEntry) : Prop := ents.length = es.length ∧ ∀ (j : Nat) k v, es[j]? = some (k, v) → ∃ e, ents[j]? = some e ∧ VR g k e.key ∧ VR g v e.val

theorem EntsR.cons {e : PVal × PVal} {es : List (PVal × PVal)} {n : MapEntry} {ents : List MapEntry} (h : EntsR g (e :: es) (n :: ents)) : VR g e.1 n.key ∧ VR g e.2 n.val ∧ EntsR g es ents := by
  obtain ⟨hl, hg⟩ := h
  obtain ⟨n', hn, h1, h2⟩ := hg 0 e.1 e.2 rfl
  simp at hn; subst hn
  exact ⟨h1, h2, by simpa using hl, fun j k v hj => by simpa using hg (j + 1) k v (by simpa using hj)⟩

theorem find_now {d : TypeDesc} {kp : PVal} {kv : Value} (hs : ∀ k v t, VR g k v → sameVal kp k = some t → Instr.sameNow d kv v = some t) : ∀ {es : List (PVal × PVal)} {ents : List MapEntry} {o : Option Nat} (i : Nat), EntsR g es ents → findIx kp es = some o →
    Instr.findNow d kv ents i = some (o.bind fun j => (ents[j]?).map fun n => (i + j, n.val))
  | [], [], o, i, _, h => by simp only [findIx, Option.some.injEq] at h; subst h; rfl
  | [], _ :: _, o, i, he, _ => by have := he.1; simp at this
  | _ :: _, [], o, i, he, _ => by have := he.1; simp at this
  | e :: es, n :: ents, o, i, he, h => by
    obtain ⟨h1, _, h3⟩ := he.cons
    simp only [findIx, Option.bind_eq_some_iff] at h
    obtain ⟨b, hb, h⟩ := h
    have hn := hs _ _ _ h1 hb
    cases b with
    | true =>
      simp only [cond_true, Option.some.injEq] at h
      subst h
      simp [Instr.findNow, hn]
    | false =>
      simp only [cond_false, Option.map_eq_some_iff] at h
      obtain ⟨o', h2, rfl⟩ := h
      have := find_now hs (i + 1) h3 h2
      simp only [Instr.findNow, hn, this]
      cases o' with
      | none => rfl
      | some j => simp; congr 2; funext n; rw [show i + 1 + j = i + (j + 1) by omega]

theorem find_ask {kt : TypeId} {kp : PVal} {kv : Value} (hs : ∀ k v t, VR g k v → sameVal kp k = some t → (Op.equal kt kv v).run P w = .ok t w) : ∀ {es : List (PVal × PVal)} {ents : List MapEntry} {o : Option Nat} (i : Nat), EntsR g es ents → findIx kp es = some o →
    (Instr.findAsking kt kv ents i).run P w = .ok (o.bind fun j => (ents[j]?).map fun n => (i + j, n.val)) w
  | [], [], o, i, _, h => by simp only [findIx, Option.some.injEq] at h; subst h; simp [Instr.findAsking]
  | [], _ :: _, o, i, he, _ => by have := he.1; simp at this
  | _ :: _, [], o, i, he, _ => by have := he.1; simp at this
  | e :: es, n :: ents, o, i, he, h => by
    obtain ⟨h1, _, h3⟩ := he.cons
    simp only [findIx, Option.bind_eq_some_iff] at h
    obtain ⟨b, hb, h⟩ := h
    have hn := hs _ _ _ h1 hb
    cases b with
    | true =>
      simp only [cond_true, Option.some.injEq] at h
      subst h
      simp [Instr.findAsking, hn]
    | false =>
      simp only [cond_false, Option.map_eq_some_iff] at h
      obtain ⟨o', h2, rfl⟩ := h
      have := find_ask hs (i + 1) h3 h2
      simp only [Instr.findAsking, Sem.run_bind, hn, Result.andThen_ok, Bool.false_eq_true, if_false, this]
      cases o' with
      | none => rfl
      | some j => simp; congr 2; funext n; rw [show i + 1 + j = i + (j + 1) by omega]

/-- What a map's key type lets be done. -/
structure KeyLaw (P : Program) (kt : TypeId) (kk : Nat) : Prop where
  check : ∀ (g : Gh) (w : World) (p : PVal) (v : Value) (em : Bool), keyKind kk p = true → VR g p v → (Instr.checkKey em 10000 kt v).run P w = .ok () w
  find : ∀ (g : Gh) (w : World) (kp : PVal) (kv : Value) (es : List (PVal × PVal)) (ents : List MapEntry) (o : Option Nat), keyKind kk kp = true → VR g kp kv → EntsR g es ents → findIx kp es = some o →
    (Instr.findKey kt kv ents).run P w = .ok (o.bind fun j => (ents[j]?).map fun n => (j, n.val)) w
  stays : ∀ (g : Gh) (kp k : PVal) (kv v : Value), keyKind kk kp = true → VR g kp kv → VR g k v → sameVal kp k = some true → Instr.sameBits 10000 v kv = true

theorem law_cell {kt : TypeId} {d : TypeDesc} {kk : Nat} (hu : P.underlying kt = some d) (hk : ∀ k, keyKind kk k = true → keyFits d k = true) (hd : d = .bool ∨ d = .string ∨ ∃ k, d = .int k) : KeyLaw P kt kk where
  check := fun g w p v em h hv => run_checkKey hu (hk p h) hv
  find := fun g w kp kv es ents o h hkv he hi => by
    have := find_now (d := d) (fun k v t hv hs => sameCell_now hd hkv hv (hk kp h) (by rw [← sameVal_cell (hk kp h)]; exact hs)) 0 he hi
    simp only [Instr.findKey, Sem.run_bind, run_underlying' hu, Result.andThen_ok, this, Sem.run_pure]
    cases o with
    | none => rfl
    | some j => simp
  stays := fun g kp k kv v h hkv hv hs => by
    have hf := hk kp h
    rw [sameVal_cell hf] at hs
    have e10 : Instr.sameBits 10000 v kv = Instr.sameBits (9999 + 1) v kv := rfl
    rw [e10]
    unfold sameCell at hs
    split at hs
    · rename_i k1 x k2 y
      obtain rfl := hkv.inv_int; obtain rfl := hv.inv_int
      by_cases hkk : k1 = k2
      · subst hkk; simp at hs; subst hs; simp [Instr.sameBits]
      · simp [hkk] at hs
    · obtain rfl := hkv.inv_bool; obtain rfl := hv.inv_bool
      simp at hs; subst hs; simp [Instr.sameBits]
    · obtain rfl := hkv.inv_str; obtain rfl := hv.inv_str
      simp at hs; subst hs
      simp only [Instr.sameBits]
      show ((_ : Array UInt8) == _) = true
      simp
    · cases hs

theorem ints_same : ∀ {ps qs : List PVal} {xs ys : List Value}, (∀ c, c ∈ ps → c.isInt = true) → ps.length = xs.length → qs.length = ys.length → (∀ (i : Nat) c, ps[i]? = some c → VR g c (xs.getD i undef)) → (∀ (i : Nat) c, qs[i]? = some c → VR g c (ys.getD i undef)) → sameCells ps qs = some true →
    xs = ys ∧ ∀ x, x ∈ xs → ∃ k n, x = .int k n
  | [], [], xs, ys, _, h1, h2, _, _, _ => by
    obtain rfl : xs = [] := List.eq_nil_of_length_eq_zero h1.symm
    obtain rfl : ys = [] := List.eq_nil_of_length_eq_zero h2.symm
    exact ⟨rfl, fun x h => by cases h⟩
  | [], _ :: _, _, _, _, _, _, _, _, h => by simp [sameCells] at h
  | _ :: _, [], _, _, _, _, _, _, _, h => by simp [sameCells] at h
  | p :: ps, q :: qs, [], _, _, h, _, _, _, _ => by simp at h
  | p :: ps, q :: qs, _ :: _, [], _, _, h, _, _, _ => by simp at h
  | p :: ps, q :: qs, x :: xs, y :: ys, hi, h1, h2, h3, h4, h => by
    simp only [sameCells, Option.bind_eq_some_iff, Option.map_eq_some_iff] at h
    obtain ⟨a, ha, b, hb, hab⟩ := h
    simp only [Bool.and_eq_true] at hab
    obtain ⟨rfl, rfl⟩ := hab
    obtain ⟨rfl, hall⟩ := ints_same (ps := ps) (qs := qs) (xs := xs) (ys := ys) (fun c hc => hi c (List.mem_cons_of_mem _ hc)) (by simpa using h1) (by simpa using h2) (fun i c e => by simpa using h3 (i + 1) c (by simpa using e)) (fun i c e => by simpa using h4 (i + 1) c (by simpa using e)) hb
    have hx : VR g p x := by simpa using h3 0 p rfl
    have hy : VR g q y := by simpa using h4 0 q rfl
    have hpi := hi p List.mem_cons_self
    cases p <;> simp [PVal.isInt] at hpi
    cases q <;> first | (simp [sameCell] at ha; done) | skip
    rename_i k1 n1 k2 n2
    obtain rfl := hx.inv_int
    obtain rfl := hy.inv_int
    by_cases hkk : k1 = k2
    · subst hkk
      simp [sameCell] at ha; subst ha
      exact ⟨rfl, fun x hx => by
        rcases List.mem_cons.1 hx with rfl | hx
        · exact ⟨_, _, rfl⟩
        · exact hall x hx⟩
    · simp [sameCell, hkk] at ha

theorem sameBits_self {l : List Value} (h : ∀ x, x ∈ l → ∃ k n, x = .int k n) (d : Nat) : ((l.zip l).all fun p => Instr.sameBits d p.1 p.2) = true := by
  rw [List.all_eq_true]
  intro p hp
  obtain ⟨i, hi⟩ := List.mem_iff_getElem?.1 hp
  rw [List.getElem?_zip_eq_some] at hi
  obtain ⟨h1, h2⟩ := hi
  rw [h1] at h2
  have e : p.1 = p.2 := Option.some.inj h2
  obtain ⟨k, n, e1⟩ := h p.1 (List.mem_of_getElem? h1)
  rw [← e, e1]
  cases d <;> simp [Instr.sameBits]

theorem checkKey_loop {e : TypeId} {kk : IntKind} {i : TypeInfo} {cs : Array Value} {em : Bool} (hue : P.underlying e = some (.int kk)) (hi : P.info? e = some i) (hs : i.size = 1) : ∀ (k s : Nat), s + k ≤ cs.size →
    (forIn (m := Sem) (List.range' s k) PUnit.unit fun i _ => do
      Instr.checkKey em 9999 e (← part e cs (i * (← sizeOf e)))
      pure (ForInStep.yield PUnit.unit)).run P w = .ok PUnit.unit w
  | 0, s, _ => by simp
  | k + 1, s, h => by
    have hisA : (isAgg e).run P w = .ok false w := by simp [isAgg, run_underlying' hue]
    have hlt : s < cs.size := by omega
    have hp : (part e cs (s * 1)).run P w = .ok (cs.getD s undef) w := by simp [part, hisA, hlt]
    have hck : ∀ v, (Instr.checkKey em 9999 e v).run P w = .ok () w := fun v => by
      have e9 : Instr.checkKey em 9999 e v = Instr.checkKey em (9998 + 1) e v := rfl
      rw [e9]; unfold Instr.checkKey; simp only [Sem.run_bind, run_underlying' hue, Result.andThen_ok, Sem.run_pure]
    have ih := checkKey_loop (em := em) (cs := cs) hue hi hs k (s + 1) (by omega)
    rw [List.range'_succ, List.forIn_cons]
    simp only [Sem.run_bind, run_sizeOf' hi, hs, Result.andThen_ok, hp, hck, Sem.run_pure]
    exact ih

theorem run_checkKey_ints {kt e : TypeId} {len : Nat} {kk : IntKind} {i : TypeInfo} {cs : Array Value} {em : Bool} (hu : P.underlying kt = some (.array len e)) (hue : P.underlying e = some (.int kk)) (hi : P.info? e = some i) (hs : i.size = 1) (hl : cs.size = len) :
    (Instr.checkKey em 10000 kt (.agg cs)).run P w = .ok () w := by
  have e10 : Instr.checkKey em 10000 kt (.agg cs) = Instr.checkKey em (9999 + 1) kt (.agg cs) := rfl
  rw [e10]
  unfold Instr.checkKey
  simp only [Sem.run_bind, run_underlying' hu, Result.andThen_ok]
  simp only [Std.Legacy.Range.forIn_eq_forIn_range', Std.Legacy.Range.size, Nat.sub_zero, Nat.add_one_sub_one, Nat.div_one]
  have := checkKey_loop (w := w) (em := em) (cs := cs) hue hi hs len 0 (by omega)
  simp at this ⊢
  rw [this]
  rfl

theorem law_ints {kt e : TypeId} {len : Nat} {kk : IntKind} {i : TypeInfo} (hu : P.underlying kt = some (.array len e)) (hue : P.underlying e = some (.int kk)) (hi : P.info? e = some i) (hs : i.size = 1) (hq : eqOk P 100 kt len = true) : KeyLaw P kt (len + 3) where
  check := fun g w p v em h hv => by
    cases p <;> simp [keyKind] at h
    rename_i cs
    obtain ⟨vs, rfl, hl, _⟩ := hv.inv_agg
    exact run_checkKey_ints hu hue hi hs (by omega)
  find := fun g w kp kv es ents o h hkv he hix => by
    cases kp <;> simp [keyKind] at h
    rename_i cs
    have hagg : aggTy P kt = true := by unfold aggTy; rw [hu]
    have hfa := find_ask (P := P) (w := w) (kt := kt) (kp := .agg cs) (kv := kv) (fun k v t hv hsv => by
      have := eq_ok 100 9900 kt len hq g w (.agg cs) k kv v cs
      rw [hagg] at this
      cases k <;> first | (simp [sameVal, sameCell] at hsv; done) | skip
      rename_i ds
      exact this ds t hkv hv rfl rfl (fun c hc => h.2 c hc) h.1 hsv) 0 he hix
    simp only [Instr.findKey, Sem.run_bind, run_underlying' hu, Result.andThen_ok]
    cases es with
    | nil =>
      have : ents = [] := List.eq_nil_of_length_eq_zero (by simpa using he.1)
      subst this
      simp only [findIx, Option.some.injEq] at hix
      subst hix
      simp [Instr.findNow]
    | cons e0 es =>
      cases ents with
      | nil => have := he.1; simp at this
      | cons n ents =>
        have : Instr.findNow (.array len e) kv (n :: ents) 0 = none := by simp [Instr.findNow, Instr.sameNow]
        simp only [this, hfa]
        cases o <;> simp
  stays := fun g kp k kv v h hkv hv hsv => by
    cases kp <;> simp [keyKind] at h
    rename_i cs
    cases k <;> first | (simp [sameVal, sameCell] at hsv; done) | skip
    rename_i ds
    obtain ⟨xs, rfl, hl1, _, hv1⟩ := hkv.inv_agg
    obtain ⟨ys, rfl, hl2, _, hv2⟩ := hv.inv_agg
    obtain ⟨he, hall⟩ := ints_same (g := g) (ps := cs) (qs := ds) (xs := xs.toList) (ys := ys.toList) (fun c hc => h.2 c hc) (by simpa using hl1) (by simpa using hl2) (fun i c e => by simpa using hv1 i c e) (fun i c e => by simpa using hv2 i c e) hsv
    have he' : xs = ys := Array.ext' he
    subst he'
    have e10 : Instr.sameBits 10000 (.agg xs) (.agg xs) = Instr.sameBits (9999 + 1) (.agg xs) (.agg xs) := rfl
    rw [e10]
    simp only [Instr.sameBits, BEq.rfl, Bool.true_and]
    exact sameBits_self hall 9999

theorem sim_eqvA {t u : TypeId} {x y : Operand} {ps qs : List PVal} {op : BinOp} {neg r : Bool} {n : Nat} (hw : WI g w m) (hq : eqOk P 100 t n = true) (hagg : aggTy P t = true) (hgd : P.eqGuardType P.depth t = false) (hop : op = bif neg then .neq else .eql)
    (hx : VR g (.agg ps) (ρ x)) (hy : VR g (.agg qs) (ρ y)) (hl : ps.length = n) (hint : ∀ c, c ∈ ps → c.isInt = true) (h : sameCells ps qs = some r) :
    Res P ρ ⟨dst, .binOp op t x y u, ty, pos, after, guard⟩ ca g w m (.bool (bif neg then !r else r)) m := by
  have he := eq_ok 100 9900 t n hq g w (.agg ps) (.agg qs) (ρ x) (ρ y) ps qs r hx hy (by rw [hagg]; rfl) (by rw [hagg]; rfl) hint hl h
  obtain ⟨xs, ex, _⟩ := hx.inv_agg
  obtain ⟨ys, ey, _⟩ := hy.inv_agg
  rw [ex, ey] at he
  have hg := run_eqGuard_agg (P := P) w op t x y xs ys hgd
  have he' : (Op.equalIn 10000 t (.agg xs) (.agg ys)).run P w = .ok r w := he
  subst hop
  refine .plain hw (v := .bool (bif neg then !r else r)) ?_ (.bool _) (by simp) (by simp)
  cases neg with
  | true => simp only [cond_true] at hg ⊢; simp [execOp, ex, ey, hg, run_neq_struct w t xs ys, he']
  | false => simp only [cond_false] at hg ⊢; simp [execOp, ex, ey, hg, run_eql_struct w t xs ys, he']

end
end Go.Ev

/- Maps are set and asked; rows of objects grow. -/
namespace Go.Ev

section
variable {P : Program} {ρ : Operand → Value} {g : Gh} {w : World} {m : Mem} {dst : Option Tmp} {ty : TypeId} {pos : String} {after : Array Edge} {guard : Option (Nat × Bool)} {ca : Nat → Nat}

theorem sim_lookupK {t kt et : TypeId} {kk : Nat} {x y : Operand} {p kp zero : PVal} {i : TypeInfo} {zv : Value} {ok : Bool} {r : Option PVal} (hw : WI g w m) (hu : P.underlying t = some (.map kt et)) (hl : KeyLaw P kt kk) (hk : keyKind kk kp = true)
    (hi : P.info? et = some i) (hz : i.zero = some zv) (hvz : VR g zero zv) (hoz : OwnOk g zero zv) (hcz : ∀ b, clV zero zv b = 0) (hx : VR g p (ρ x)) (hy : VR g kp (ρ y))
    (hf : (p = .nilmap ∧ r = none) ∨ ∃ id es, p = .map id ∧ m.get id = some (.map es) ∧ findKey kp es = some r) :
    Res P ρ ⟨dst, .lookup t x y ok, ty, pos, after, guard⟩ ca g w m (bif ok then .tuple [(r.map PVal.nz1).getD zero, .bool r.isSome] else (r.map PVal.nz1).getD zero) m := by
  have hzv : (zeroValue et).run P w = .ok zv w := by simp [zeroValue, run_typeInfo' hi, hz]
  have key : ∃ u, (Instr.lookup t (ρ x) (ρ y) ok).run P w = .ok (if ok then .tuple #[u, .bool r.isSome] else u) w ∧ VR g ((r.map PVal.nz1).getD zero) u ∧ OwnOk g ((r.map PVal.nz1).getD zero) u ∧ ∀ b, clV ((r.map PVal.nz1).getD zero) u b = 0 := by
    rcases hf with ⟨rfl, rfl⟩ | ⟨id, es, rfl, hget, hfind⟩
    · refine ⟨zv, ?_, hvz, hoz, hcz⟩
      have hfk := hl.find g w kp (ρ y) [] [] none hk hy ⟨rfl, fun j k v h => by simp at h⟩ rfl
      simp only [Instr.lookup, Sem.run_bind, run_underlying' hu, Result.andThen_ok, hx.inv_nilmap, Sem.run_pure, hl.check g w kp (ρ y) _ hk hy]
      have e : (#[] : Array MapEntry).toList = [] := rfl
      simp [hfk, hzv]
    · obtain ⟨b, hb, ex⟩ := hx.inv_map
      obtain ⟨b', hb', _, ⟨ents, clock, hh, hlen, hents⟩⟩ := hw.get hget
      obtain rfl : b = b' := by rw [hb] at hb'; exact Option.some.inj hb'
      have hE : EntsR g es ents.toList := ⟨by simpa using hlen, fun j k v hj => by simpa using hents j k v hj⟩
      obtain ⟨o, hix, hsome, hnone⟩ := findKey_ix hfind
      have hfk := hl.find g w kp (ρ y) es ents.toList o hk hy hE hix
      cases o with
      | none =>
        obtain rfl := hnone rfl
        refine ⟨zv, ?_, hvz, hoz, hcz⟩
        simp only [Instr.lookup, Sem.run_bind, run_underlying' hu, Result.andThen_ok, ex, getObj_run hh, Sem.run_pure, hl.check g w kp (ρ y) _ hk hy, hfk]
        simp [hzv]
      | some j =>
        obtain ⟨e, he, rfl⟩ := hsome j rfl
        obtain ⟨n, hn, _, hv⟩ := hE.2 j e.1 e.2 he
        refine ⟨n.val, ?_, hv.nz1, OwnOk_nz1 _ _ _, clV_nz1 _ _⟩
        simp only [Instr.lookup, Sem.run_bind, run_underlying' hu, Result.andThen_ok, ex, getObj_run hh, Sem.run_pure, hl.check g w kp (ρ y) _ hk hy, hfk]
        simp at hn
        simp [hn]
  obtain ⟨u, hr, h1, h2, h3⟩ := key
  cases ok with
  | true =>
    refine .plain hw (v := .tuple #[u, .bool r.isSome]) (by simp [execOp, hr]) (.tuple rfl fun j c e => ?_) (by simp) (by simp)
    match j, e with
    | 0, e => simp at e; subst e; exact h1
    | 1, e => simp at e; subst e; exact .bool _
    | j + 2, e => simp at e
  | false => exact .pure hw (by simp [execOp, hr]) h1 h2 fun b => by simp only [cond_false]; rw [h3]; omega

theorem heap_set_self {w : World} {b : Nat} {o ob : Obj} (h : w.heap[b]? = some ob) : ({ w with heap := w.heap.setIfInBounds b o } : World).heap[b]? = some o := by
  have hlt := (Array.getElem?_eq_some_iff.1 h).1
  simp [hlt]
theorem heap_set_other {w : World} {b k : Nat} {o : Obj} (h : k ≠ b) : ({ w with heap := w.heap.setIfInBounds b o } : World).heap[k]? = w.heap[k]? := by
  simp [Array.getElem?_setIfInBounds_ne (Ne.symm h)]

/-- A map's entries are laid anew. -/
theorem setMap_ok {id b : Nat} {es es' : List (PVal × PVal)} {ents ents' : Array MapEntry} {clock clock' : Nat} {ok : Bool} (hw : WI g w m) (hget : m.get id = some (.map es)) (hb : g.φ[id]? = some b) (hh : w.heap[b]? = some (.map ents clock))
    (hE : EntsR g es' ents'.toList) (hsc : ok = true → (MObj.map es).under (id + 1) = true → (MObj.map es').under (id + 1) = true) :
    Step ca g w m (.tuple []) ((m.set id (.map es')).mark id ok) g { w with heap := w.heap.setIfInBounds b (.map ents' clock') } undef := by
  have hmem := find_mem hget
  obtain ⟨b', hb', hlg, _⟩ := hw.get hget
  obtain rfl : b = b' := by rw [hb] at hb'; exact Option.some.inj hb'
  obtain ⟨hob, hnx, hup, hup'⟩ := mark_objs (m.set id (.map es')) id ok
  generalize hm' : (m.set id (.map es')).mark id ok = m' at hob hnx hup hup'
  generalize hw' : ({ w with heap := w.heap.setIfInBounds b (.map ents' clock') } : World) = w'
  have hself : w'.heap[b]? = some (.map ents' clock') := by rw [← hw']; exact heap_set_self hh
  have hoth : ∀ k, k ≠ b → w'.heap[k]? = w.heap[k]? := fun k hk => by rw [← hw']; exact heap_set_other hk
  have hsize : w'.heap.size = w.heap.size := by rw [← hw']; simp
  have hne : ∀ i o, (i, o) ∈ m.objs → i ≠ id → ∀ k, g.φ[i]? = some k → k ≠ b := fun i o hm hi k hk he => by
    subst he; exact hi (hw.inj i o id _ k hm hmem hk hb)
  have mem_old : ∀ i o, (i, o) ∈ m'.objs → ∃ o', (i, o') ∈ m.objs := fun i o h => by
    rw [hob] at h
    have : i ∈ (Mem.repl m.objs id (.map es')).map (·.1) := List.mem_map.2 ⟨_, h, rfl⟩
    rw [repl_keys] at this
    obtain ⟨y, hy, he⟩ := List.mem_map.1 this
    exact ⟨y.2, by rw [← he]; exact hy⟩
  have hclM : ∀ k, clM g w' m' k = clM g w m k := fun k => by
    have := clMs_repl (φ := g.φ) (w := w) (w' := w') (o' := .map es') hw.sorted hmem (fun i o hm hi => by
      obtain ⟨k', hk', _, _⟩ := hw.obj i o hm
      rw [phi_getD hk']
      exact heapCells_congr (hoth k' (hne i o hm hi k' hk'))) k
    have e : clM g w' m' k = clMs g.φ w' (Mem.repl m.objs id (.map es')) k := by unfold clM; rw [hob]; rfl
    rw [e]
    show _ = clMs g.φ w m.objs k
    simpa [clObj] using this
  exact {
    wi := {
      lg := fun k row hk => by
        obtain ⟨c', fz, hc', rest⟩ := hw.lg k row hk
        refine ⟨c', fz, ?_, rest⟩
        rw [hoth k (fun he => by subst he; rw [hlg] at hk; cases hk)]; exact hc'
      len := by rw [hnx]; exact hw.len
      sorted := by rw [hob]; exact repl_sorted _ _ hw.sorted
      bound := fun x hx => by
        obtain ⟨o', ho'⟩ := mem_old x.1 x.2 hx
        rw [hnx]; exact hw.bound (x.1, o') ho'
      obj := fun i o hi => by
        rw [hob] at hi
        by_cases hid : i = id
        · subst hid
          obtain rfl := repl_new hw.sorted hi
          exact ⟨b, hb, hlg, ents', clock', hself, by simpa using hE.1, fun j k v hj => by simpa using hE.2 j k v hj⟩
        · have hold := repl_old hi hid
          obtain ⟨k, hk, hn, hr⟩ := hw.obj i o hold
          exact ⟨k, hk, hn, hr.mono (Gh.Le.refl g) (hoth k (hne i o hold hid k hk)) fun p v h _ => h⟩
      inj := fun i o j o' k hi hj => by
        obtain ⟨o1, h1⟩ := mem_old i o hi
        obtain ⟨o2, h2⟩ := mem_old j o' hj
        exact hw.inj i o1 j o2 k h1 h2
      scope := fun i o hi => by
        rw [hob] at hi
        by_cases hid : i = id
        · subst hid
          obtain rfl := repl_new hw.sorted hi
          cases hok : ok with
          | false => exact .inl (hup' hok)
          | true =>
            rcases hw.scope i _ hmem with h | h
            · exact .inl (hup i h)
            · exact .inr (hsc hok h)
        · rcases hw.scope i o (repl_old hi hid) with h | h
          · exact .inl (hup i h)
          · exact .inr h
      phi := fun i k hk => by rw [hsize]; exact hw.phi i k hk
      bsz := fun i k hk c e f hc => by
        by_cases hkb : k = b
        · subst hkb; rw [hself] at hc; cases hc
        · rw [hoth k hkb] at hc; exact hw.bsz i k hk c e f hc }
    vr := .tuple rfl (fun i c h => by simp at h)
    ok := trivial
    size := by rw [hsize]; exact Nat.le_refl _
    φ := ⟨[], by simp, fun b h => by simp at h⟩
    lgle := fun k row h => ⟨row, h, List.prefix_refl _⟩
    bs := fun _ _ _ => rfl
    claims := fun k _ => by rw [hclM]; have h0 : clV (.tuple []) undef k = 0 := rfl; omega
    claims' := fun k hk => by rw [hclM, clM_lt hw hk]; have h0 : clV (.tuple []) undef k = 0 := rfl; omega
    keepLg := fun k row h _ => h
    keepBlk := fun k _ _ hno => hoth k (fun he => by subst he; exact hno id hb)
    fresh := fun k c e f hc => by
      by_cases hkb : k = b
      · subst hkb; rw [hself] at hc; cases hc
      · rw [hoth k hkb] at hc; exact .inl ⟨c, hc⟩
    R := (by first | rfl | exact h.R | exact h'.R.trans h.R)
    keepNone := fun _ _ h _ => h
    os := by rw [← hw']; exact ⟨rfl, rfl, rfl⟩ }

theorem key_under {kk n : Nat} {k : PVal} (h : keyKind kk k = true) : k.under2 n = true := by
  cases k with
  | agg cs =>
    have h : ∃ j, kk = j + 3 ∧ (cs.length.beq j && cs.all PVal.isInt) = true := by
      match kk, h with
      | 0, h => simp [keyKind] at h
      | 1, h => simp [keyKind] at h
      | 2, h => simp [keyKind] at h
      | j + 3, h => exact ⟨j, rfl, h⟩
    obtain ⟨j, _, h⟩ := h
    simp only [Bool.and_eq_true, List.all_eq_true] at h
    simp only [PVal.under2, List.all_eq_true]
    intro c hc
    have := h.2 c hc
    cases c <;> simp [PVal.isInt] at this
    rfl
  | int => rfl
  | str => rfl
  | bool => rfl
  | _ =>
    exfalso
    match kk, h with
    | 0, h => simp [keyKind] at h
    | 1, h => simp [keyKind] at h
    | 2, h => simp [keyKind] at h
    | j + 3, h => simp [keyKind] at h

theorem sim_mapset {t kt et : TypeId} {kk id : Nat} {op : Op} {x y z : Operand} {kp vp : PVal} {es es' : List (PVal × PVal)} (hop : op = .mapUpdate t x y z ∨ op = .insert t x y z) (hw : WI g w m) (hu : P.underlying t = some (.map kt et)) (hl : KeyLaw P kt kk) (hk : keyKind kk kp = true)
    (hx : VR g (.map id) (ρ x)) (hy : VR g kp (ρ y)) (hz : VR g vp (ρ z)) (hget : m.get id = some (.map es)) (hs : setKey kp vp.nz1 es = some es') :
    Res P ρ ⟨dst, op, ty, pos, after, guard⟩ ca g w m (.tuple []) ((m.set id (.map es')).mark id (vp.nz1.under2 (id + 1))) := by
  obtain ⟨b, hb, ex⟩ := hx.inv_map
  obtain ⟨b', hb', _, ⟨ents, clock, hh, hlen, hents⟩⟩ := hw.get hget
  obtain rfl : b = b' := by rw [hb] at hb'; exact Option.some.inj hb'
  have hE : EntsR g es ents.toList := ⟨by simpa using hlen, fun j k v hj => by simpa using hents j k v hj⟩
  obtain ⟨o, hix, he'⟩ := setKey_ix hs
  have hfk := hl.find g w kp (ρ y) es ents.toList o hk hy hE hix
  have hsc : vp.nz1.under2 (id + 1) = true → (MObj.map es).under (id + 1) = true → (MObj.map es').under (id + 1) = true := fun h1 h2 => by
    simp only [MObj.under, List.all_eq_true, Bool.and_eq_true] at h2 ⊢
    intro e hm
    have hnew : e = (kp, vp.nz1) ∨ e ∈ es := by
      rw [he'] at hm
      cases o with
      | none =>
        rcases List.mem_append.1 hm with h | h
        · exact .inr h
        · exact .inl (by simpa using h)
      | some j =>
        rcases List.mem_or_eq_of_mem_set hm with h | h
        · exact .inr h
        · exact .inl h
    rcases hnew with rfl | h
    · exact ⟨key_under hk, h1⟩
    · exact h2 e h
  have hexec : (execOp ρ ⟨dst, op, ty, pos, after, guard⟩) = (execOp ρ ⟨dst, .mapUpdate t x y z, ty, pos, after, guard⟩) := by
    rcases hop with rfl | rfl <;> rfl
  have hcl : vp.nz1.under2 (id + 1) = vp.nz1.under2 (id + 1) := rfl
  cases o with
  | none =>
    have hE' : EntsR g es' (ents.push { key := ρ y, val := ρ z, born := clock }).toList := by
      subst he'
      refine ⟨by simp [hlen], fun j k v hj => ?_⟩
      by_cases hjl : j < es.length
      · rw [List.getElem?_append_left hjl] at hj
        obtain ⟨e, h1, h2⟩ := hE.2 j k v hj
        refine ⟨e, ?_, h2⟩
        rw [Array.toList_push, List.getElem?_append_left (by simpa [hlen] using hjl)]; exact h1
      · rw [List.getElem?_append_right (by omega)] at hj
        have hj0 : j - es.length = 0 := by
          have := (List.getElem?_eq_some_iff.1 hj).1; simp at this; omega
        rw [hj0] at hj
        simp at hj
        obtain ⟨rfl, rfl⟩ := hj
        refine ⟨{ key := ρ y, val := ρ z, born := clock }, ?_, hy, hz.nz1⟩
        rw [Array.toList_push, List.getElem?_append_right (by simp [hlen]; omega)]
        simp [hlen, hj0]
    have hst := setMap_ok (ca := ca) (clock' := clock + 1) hw hget hb hh hE' hsc
    refine ⟨g, _, undef, .inr ⟨?_, rfl⟩, hst⟩
    rw [hexec]
    simp only [Option.bind_none] at hfk
    have hso : (setObj b (.map (ents.push { key := ρ y, val := ρ z, born := clock }) (clock + 1))).run P w = .ok () { w with heap := w.heap.setIfInBounds b (.map (ents.push { key := ρ y, val := ρ z, born := clock }) (clock + 1)) } := by
      simp [setObj, Sem.run, hh]
    simp [execOp, Instr.mapUpdate, run_underlying' hu, ex, getObj_run hh, hl.check g w kp (ρ y) false hk hy, hfk, hso]
  | some j =>
    obtain ⟨e, hej, hsame⟩ := ix_same hix
    obtain ⟨n, hn, hnk, hnv⟩ := hE.2 j e.1 e.2 hej
    have hn' : ents[j]? = some n := by simpa using hn
    have hst0 := hl.stays g kp e.1 (ρ y) n.key hk hy hnk hsame
    have hE' : EntsR g es' (ents.modify j fun e => { e with key := ρ y, val := ρ z }).toList := by
      subst he'
      refine ⟨by simp [hlen], fun i k v hi => ?_⟩
      have hil : i < es.length := by have := (List.getElem?_eq_some_iff.1 hi).1; simpa using this
      by_cases hij : i = j
      · subst hij
        simp only at hi
        rw [List.getElem?_set_self hil] at hi
        cases hi
        refine ⟨{ n with key := ρ y, val := ρ z }, ?_, hy, hz.nz1⟩
        simp [hn']
      · simp only at hi
        rw [List.getElem?_set_ne (Ne.symm hij)] at hi
        obtain ⟨e, h1, h2⟩ := hE.2 i k v hi
        refine ⟨e, ?_, h2⟩
        have h1' : ents[i]? = some e := by simpa using h1
        simp [Ne.symm hij, h1']
    have hst := setMap_ok (ca := ca) (clock' := clock) hw hget hb hh hE' hsc
    refine ⟨g, _, undef, .inr ⟨?_, rfl⟩, hst⟩
    rw [hexec]
    simp only [Option.bind_some, hn, Option.map_some] at hfk
    have hso : ∀ ob, (setObj b ob).run P w = .ok () { w with heap := w.heap.setIfInBounds b ob } := fun ob => by
      simp [setObj, Sem.run, hh]
    simp [execOp, Instr.mapUpdate, run_underlying' hu, ex, getObj_run hh, hl.check g w kp (ρ y) false hk hy, hfk, hso, hn', Instr.keyThatStays, hst0]

end
end Go.Ev

/- Rows of objects grow. -/
namespace Go.Ev

section
variable {P : Program} {ρ : Operand → Value} {g : Gh} {w : World} {m : Mem} {dst : Option Tmp} {ty : TypeId} {pos : String} {after : Array Edge} {guard : Option (Nat × Bool)} {ca : Nat → Nat}

/-- An object that is no more. -/
theorem WI.del (hw : WI g w m) (id : Nat) : WI g w (m.del id) := by
  have hsub := rem_sub m.objs id
  exact ⟨hw.lg, hw.len, hw.sorted.sublist hsub, fun e he => hw.bound e (hsub.subset he), fun i o hi => hw.obj i o (hsub.subset hi), fun i o j o' k hi hj => hw.inj i o j o' k (hsub.subset hi) (hsub.subset hj), fun i o hi => hw.scope i o (hsub.subset hi), hw.phi, hw.bsz⟩

theorem clM_del (id k : Nat) : clM g w (m.del id) k ≤ clM g w m k := clMs_sub (rem_sub m.objs id) k

theorem Step.of_del {id : Nat} {r : PVal} {m' : Mem} {g' : Gh} {w' : World} {v : Value} (h : Step ca g w (m.del id) r m' g' w' v) : Step ca g w m r m' g' w' v where
  wi := h.wi
  vr := h.vr
  ok := h.ok
  size := h.size
  φ := h.φ
  lgle := h.lgle
  bs := h.bs
  claims := fun b hb => by have := h.claims b hb; have := clM_del (g := g) (w := w) (m := m) id b; omega
  claims' := h.claims'
  keepLg := fun b row e h0 => h.keepLg b row e (by have := clM_del (g := g) (w := w) (m := m) id b; omega)
  keepBlk := fun b hb h0 h1 => h.keepBlk b hb (by have := clM_del (g := g) (w := w) (m := m) id b; omega) h1
  fresh := h.fresh
  R := (by first | rfl | exact h.R | exact h'.R.trans h.R)
  keepNone := h.keepNone
  os := h.os

/-- An object lies on in the block of one that is no more, under a new number. -/
theorem again_ok {id b : Nat} {cs0 : List PVal} {cur : Array Value} {el : TypeId} {cs : List PVal} {vs : List Value} {r : PVal} {v : Value} (hw : WI g w m) (hget : m.get id = some (.cells cs0)) (hb : g.φ[id]? = some b) (hc : w.heap[b]? = some (.cells cur el (0, 0))) (hsz : vs.length = cur.size)
    (hlen : cs.length ≤ vs.length) (hcs : ∀ (i : Nat) p, cs[i]? = some p → p.isCell = true ∧ ∃ v, vs[i]? = some v ∧ VR g p v ∧ OwnOk0 g p v) (hun : (MObj.cells cs).under (m.next + 1) = true) (hcl : ∀ k, clCells cs vs k = 0)
    (hv : VR (g.app b (g.bs b)) r v) (h1 : ∀ xs, r ≠ .slice xs .own) (h2 : ∀ cs, r ≠ .agg cs) :
    Step ca g w m r ((m.del id).push (.cells cs)) (g.app b (g.bs b)) (w.setRow b vs.toArray) v := by
  have hmem := find_mem hget
  obtain ⟨b', hb', hlg, _⟩ := hw.get hget
  obtain rfl : b = b' := by rw [hb] at hb'; exact Option.some.inj hb'
  have hle : g.Le (g.app b (g.bs b)) := Gh.app_le fun _ _ => rfl
  have hrow : (w.setRow b vs.toArray).heap[b]? = some (.cells vs.toArray el (0, 0)) := setRow_heap w b cur _ el _ hc
  have hoth : ∀ k, k ≠ b → (w.setRow b vs.toArray).heap[k]? = w.heap[k]? := fun k hk => setRow_other w b k _ hk
  have hd := hw.del id
  have hne : ∀ i o, (i, o) ∈ (m.del id).objs → ∀ k, g.φ[i]? = some k → k ≠ b := fun i o hm k hk he => by
    subst he
    exact rem_not hw.sorted hm (hw.inj i o id _ k ((rem_sub m.objs id).subset hm) hmem hk hb)
  have hnew : (g.φ ++ [b])[m.next]? = some b := by
    rw [← hw.len, List.getElem?_append_right (Nat.le_refl _)]; simp
  have hbs : ∀ k, (g.app b (g.bs b)).bs k = g.bs k := fun k => by
    show (if k = b then g.bs b else g.bs k) = g.bs k
    split
    · rename_i h; rw [h]
    · rfl
  have hphi : ∀ (i k : Nat), (g.app b (g.bs b)).φ[i]? = some k → g.φ[i]? = some k ∨ (i = m.next ∧ k = b) := fun i k e => by
    have e2 : (g.φ ++ [b])[i]? = some k := e
    by_cases hid : i < g.φ.length
    · rw [List.getElem?_append_left hid] at e2; exact .inl e2
    · rw [List.getElem?_append_right (by omega)] at e2
      have h3 := (List.getElem?_eq_some_iff.1 e2).1
      simp at h3
      have h4 := List.mem_of_getElem? e2
      simp at h4
      exact .inr ⟨by have := hw.len; omega, h4⟩
  have hbl := hw.phi id b hb
  have hclM : ∀ k, clM (g.app b (g.bs b)) (w.setRow b vs.toArray) ((m.del id).push (.cells cs)) k ≤ clM g w m k := fun k => by
    have e1 : clMs (g.app b (g.bs b)).φ (w.setRow b vs.toArray) (m.del id).objs k = clMs g.φ w (m.del id).objs k := clMs_congr (fun i o he => by
      obtain ⟨k', hk', _, _⟩ := hd.obj i o he
      have h2 : (g.app b (g.bs b)).φ[i]? = some k' := hle.φ _ _ hk'
      rw [phi_getD hk', phi_getD h2]
      exact ⟨rfl, heapCells_congr (hoth k' (hne i o he k' hk'))⟩) k
    have e2 : clObj (w.setRow b vs.toArray) b (.cells cs) k = 0 := by
      simp only [clObj, heapCells, hrow]; exact hcl k
    have e3 : clM (g.app b (g.bs b)) (w.setRow b vs.toArray) ((m.del id).push (.cells cs)) k = clObj (w.setRow b vs.toArray) ((g.app b (g.bs b)).φ.getD m.next 0) (.cells cs) k + clMs (g.app b (g.bs b)).φ (w.setRow b vs.toArray) (m.del id).objs k := rfl
    have e4 : (g.app b (g.bs b)).φ.getD m.next 0 = b := phi_getD hnew
    rw [e3, e4, e2, e1]
    have := clM_del (g := g) (w := w) (m := m) id k
    unfold clM at this ⊢
    omega
  exact {
    wi := {
      lg := fun k row hk => by
        obtain ⟨c', fz, hc', rest⟩ := hw.lg k row hk
        refine ⟨c', fz, ?_, rest⟩
        rw [hoth k (fun he => by subst he; have : g.lg k = some row := hk; rw [hlg] at this; cases this)]; exact hc'
      len := by show (g.φ ++ [b]).length = m.next + 1; simp [hw.len]
      sorted := by
        simp only [Mem.push, List.pairwise_cons]
        exact ⟨fun e he => hd.bound e he, hd.sorted⟩
      bound := fun e he => by
        rcases List.mem_cons.1 he with h | h
        · subst h; simp [Mem.push, Mem.del]
        · have := hd.bound e h; simp [Mem.push, Mem.del] at this ⊢; omega
      obj := fun i o hi => by
        rcases List.mem_cons.1 hi with h | h
        · cases h
          refine ⟨b, hnew, hlg, vs.toArray, el, hrow, by simpa using hlen, fun j p hp => ?_⟩
          obtain ⟨h1, v, h2, h3, h4⟩ := hcs j p hp
          exact ⟨h1, v, by simpa using h2, h3.mono hle, h4.of_claim fun _ _ => rfl⟩
        · obtain ⟨k, hk, hn, hr⟩ := hd.obj i o h
          exact ⟨k, hle.φ _ _ hk, hn, hr.mono hle (hoth k (hne i o h k hk)) fun p v h _ => h.of_claim fun _ _ => rfl⟩
      inj := fun i o1 j o2 k hi hj ei ej => by
        have old : ∀ i o, (i, o) ∈ (m.del id).objs → (g.app b (g.bs b)).φ[i]? = some k → g.φ[i]? = some k ∧ k ≠ b := fun i o hm e => by
          obtain ⟨k', hk', _, _⟩ := hd.obj i o hm
          have h2 : (g.app b (g.bs b)).φ[i]? = some k' := hle.φ _ _ hk'
          rw [h2] at e; cases e
          exact ⟨hk', hne i o hm _ hk'⟩
        have new : ∀ i, i = (m.del id).next → (g.app b (g.bs b)).φ[i]? = some k → k = b := fun i hi e => by
          subst hi
          have e : (g.φ ++ [b])[m.next]? = some k := e
          rw [hnew] at e; cases e; rfl
        rcases List.mem_cons.1 hi with h | h <;> rcases List.mem_cons.1 hj with h' | h'
        · cases h; cases h'; rfl
        · cases h
          exact absurd (new _ rfl ei) (old j o2 h' ej).2
        · cases h'
          exact absurd (new _ rfl ej) (old i o1 h ei).2
        · exact hd.inj i o1 j o2 k h h' (old i o1 h ei).1 (old j o2 h' ej).1
      scope := fun i o hi => by
        rcases List.mem_cons.1 hi with h | h
        · cases h; exact .inr hun
        · exact hd.scope i o h
      phi := fun i k e => by
        have hs : (w.setRow b vs.toArray).heap.size = w.heap.size := by simp
        rw [hs]
        rcases hphi i k e with h | ⟨_, rfl⟩
        · exact hw.phi i k h
        · exact hbl
      bsz := fun i k e c e' f hc' => by
        rw [hbs]
        rcases hphi i k e with h | ⟨_, rfl⟩
        · exact hw.bsz_row hc (by simpa using hsz) i k h c e' f hc'
        · exact hw.bsz_row hc (by simpa using hsz) id k hb c e' f hc' }
    vr := hv
    ok := OwnOk_of h1 h2
    size := by simp
    φ := ⟨[b], rfl, fun k hk => by simp at hk; subst hk; exact .inr ⟨id, hb⟩⟩
    lgle := fun k row h => ⟨row, h, List.prefix_refl _⟩
    bs := fun _ k _ => hbs k
    claims := fun k _ => by rw [clV_zero_of h1 h2]; have := hclM k; omega
    claims' := fun k hk => by rw [clV_zero_of h1 h2]; have := hclM k; have := clM_lt hw hk; omega
    keepLg := fun k row h _ => h
    keepBlk := fun k _ _ hno => hoth k (fun he => by subst he; exact hno id hb)
    fresh := .setRow hc
    R := (by first | rfl | exact h.R | exact h'.R.trans h.R)
    keepNone := fun _ _ h _ => h
    os := ⟨rfl, rfl, rfl⟩ }

theorem flat_nz {c : PVal} (h : c.flat = true) : c.nz0.flat = true := by
  cases c <;> simp [PVal.nz0, PVal.flat] at h ⊢ <;> exact h
theorem flat_under1 {c : PVal} {n : Nat} (h : c.flat = true) : c.under1 n = true := by
  cases c with
  | func f caps =>
    have : caps = [] := by simpa [PVal.flat] using h
    subst this; rfl
  | _ => first | exact h | (simp [PVal.flat] at h)
theorem flat_under {cs : List PVal} {n : Nat} (h : ∀ c, c ∈ cs → c.flat = true) : (MObj.cells cs).under n = true := by
  simp only [MObj.under, List.all_eq_true]
  exact fun c hc => flat_under1 (h c hc)

theorem sim_append_obj {t u e : TypeId} {d : TypeDesc} {i : TypeInfo} {z : Value} {x y : Operand} {sz : Nat} {call : CallF} {p q r : PVal} {m' : Mem} {ys : List (List PVal)} (hw : WI g w m) (ht : P.underlying t = some (.slice e)) (hu : P.underlying u = some d)
    (hd : (∃ e', d = .slice e') ∨ d = .string) (hi : P.info? e = some i) (hs : i.size = sz) (hsz : sz ≠ 0) (hz : i.zero = some z) (hzs : z.cells.size = sz) (hb : i.bytes ≤ 32768)
    (hx : Arg g p (ρ x)) (hy : VR g q (ρ y)) (hys : elems m sz q = some ys) (hne : ys ≠ []) (hca : ∀ b, clV p (ρ x) b ≤ ca b) (h1 : ∀ b, ca b + clM g w m b ≤ 1)
    (he : core call (.append sz true) [p, q] m = some (r, m')) :
    Res P ρ ⟨dst, .call { callee := .builtin .append, args := #[x, y], argTypes := #[t, u] }, ty, pos, after, guard⟩ ca g w m r m' := by
  have hye : ys.isEmpty = false := by cases ys <;> first | exact absurd rfl hne | rfl
  simp only [core, hys, Option.bind_some, hye, cond_false] at he
  subst hs
  obtain ⟨news, hen, hlen, hfc⟩ := elems_ok (P := P) hw hsz hy hys
  obtain ⟨news', hen', hlen', hfc'⟩ := elems_ok (P := P) (wi_drew hw) hsz hy hys
  have hyl : 0 < ys.length := by cases ys with
    | nil => exact absurd rfl hne
    | cons => simp
  have hrun : ∀ v w', (Builtin.append_ #[t, u] ty #[ρ x, ρ y]).run P w = .ok v w' → (execOp ρ ⟨dst, .call { callee := .builtin .append, args := #[x, y], argTypes := #[t, u] }, ty, pos, after, guard⟩).run P w = .ok (.value v) w' := by
    intro v w' h
    simp [execOp, resolve, invoke, builtin, h]
  -- a new block, and a new object in it
  have more : ∀ (mm : Mem) base (len cap : Nat) (us : List Value) (cs : List PVal), WI g w.drew mm → mm.next = m.next → ρ x = .slice base len cap → cap < len + ys.length → len + ys.length ≤ 4294967296 → us.length = len * i.size → CellsR g cs (us ++ news') → (∀ b, clCells cs (us ++ news') b = 0) →
      (Builtin.firstCells i.size len (.slice base len cap)).run P w.drew = .ok us.toArray w.drew →
      ∃ g' w' v, ((execOp ρ ⟨dst, .call { callee := .builtin .append, args := #[x, y], argTypes := #[t, u] }, ty, pos, after, guard⟩).run P w = .ok (.value v) w') ∧ Step ca g w.drew mm (.oslice i.size m.next 0 (len + ys.length) (len + ys.length)) (mm.push (.cells cs)) g' w' v := by
    intro mm base len cap us cs hwm hnx hrx hlt h32 hul hcs hcl hfo
    have hr := run_append_more (ty := ty) ht hu hd hi hz hlen hfc' hfo hlt h32 hb
    have hge := grownCap_ge w (len + ys.length) cap e
    generalize grownCap w (len + ys.length) cap e = K at hr hge
    have hsizes : (us ++ (news' ++ (Builtin.zeroCells z.cells (K - (len + ys.length))).toList)).toArray.size = K * i.size := by
      simp only [List.size_toArray, List.length_append, Array.length_toList, size_zeroCells, hzs, hul, hen'.len]
      rw [← Nat.add_assoc, ← Nat.add_mul, ← Nat.add_mul]
      congr 1; omega
    refine ⟨_, _, _, hrun _ _ (by rw [hrx]; exact hr), Step.cellsLong (w := w.drew) (m := mm) hwm rfl (vs := us ++ news') (by simp [← List.append_assoc]) hcs (fun b => ?_) _ _ (.oslice (Nat.le_refl _) hge ⟨w.heap.size, ?_, fun _ => rfl, .inr ?_⟩) (by simp) (by simp)⟩
    · have e1 : clCells cs (us ++ (news' ++ (Builtin.zeroCells z.cells (K - (len + ys.length))).toList)).toArray.toList b = clCells cs (us ++ news') b := by
        have hl : cs.length ≤ (us ++ news').length := by rw [hcs.len]; exact Nat.le_refl _
        simp only
        rw [← List.append_assoc]
        have key : ∀ (cs : List PVal) (l t : List Value), cs.length ≤ l.length → clCells cs (l ++ t) b = clCells cs l b := by
          intro cs
          induction cs with
          | nil => intro l t _; cases l <;> cases t <;> rfl
          | cons c cs ih =>
            intro l t h
            cases l with
            | nil => simp at h
            | cons v l => simp only [List.cons_append, clCells]; rw [ih l t (by simpa using h)]
        exact key cs _ _ hl
      rw [e1, hcl b]; exact Nat.zero_le _
    · show (g.φ ++ [w.heap.size])[m.next]? = some w.heap.size
      rw [← hw.len, List.getElem?_append_right (Nat.le_refl _)]; simp
    · have e1 : (g.app w.drew.heap.size (us ++ (news' ++ (Builtin.zeroCells z.cells (K - (len + ys.length))).toList)).toArray.size).bs w.heap.size = K * i.size := by
        rw [hsizes]
        show (if w.heap.size = w.drew.heap.size then K * i.size else _) = _
        exact if_pos rfl
      rw [e1]; omega
  cases p with
  | slice xs c =>
    simp only at he
    obtain ⟨hcond, he⟩ := bif_some he
    simp only [Bool.and_eq_true, Bool.not_eq_true', decide_eq_false_iff_not, Nat.ble_eq] at hcond
    obtain ⟨⟨hc, hh⟩, h32⟩ := hcond
    by_cases hex : c = .exact
    · subst hex
      simp only [decide_true, Bool.and_self, cond_true, Option.some.injEq, Prod.mk.injEq] at he
      obtain ⟨rfl, rfl⟩ := he
      by_cases hxs : xs = []
      · subst hxs
        obtain ⟨a, cap, hrx, _, hex, _⟩ := hx.vr.inv_slice
        have hcap : cap = 0 := by simpa using hex rfl
        subst hcap
        have hcs := elems_cells hen' hsz
        obtain ⟨g', w', v, h1, h2⟩ := more m a 0 0 [] (ys.flatten.map PVal.nz0) (wi_drew hw) rfl hrx (by omega) (by simpa using h32) (by simp) (by simpa using hcs) (fun b => clCells_map_nz _ _ _) (by
          cases a with
          | none => simp [Builtin.firstCells]
          | some a => exact run_firstCells_list (us := []) (by simp) (by simp))
        refine ⟨g', w', v, .inl h1, ?_⟩
        have := h2.of_drew
        simpa using this
      · obtain ⟨b, off, cap, row, us, hrx, hcap, hex, hl, hel, hsub⟩ := slice_elems hx.vr hsz hxs hh
        have hce := hex rfl
        have hcs := elems_cells (hel.append hen') hsz
        obtain ⟨g', w', v, h1, h2⟩ := more m _ xs.length cap us ((xs ++ ys).flatten.map PVal.nz0) (wi_drew hw) rfl hrx (by omega) h32 hel.len hcs (fun b => clCells_map_nz _ _ _) (run_first_told (wi_drew hw) hl hsub hel.len)
        exact ⟨g', w', v, .inl h1, h2.of_drew⟩
    · simp only [hex, decide_false, Bool.and_false, cond_false, Option.some.injEq, Prod.mk.injEq] at he
      obtain ⟨rfl, rfl⟩ := he
      exact sim_append hw ht hu hd hi rfl hsz hz hzs hb hx hy hys hne hc hh h32 hca h1
  | oslice sz' id off len cap =>
    simp only at he
    obtain ⟨hcond, he1⟩ := bif_some he
    clear he
    simp only [Bool.and_true] at hcond
    obtain rfl := Nat.eq_of_beq_eq_true hcond
    obtain ⟨a, cap', ex, hlc, hcc, b, hbb, hne', hcap'⟩ := hx.vr.inv_oslice
    cases hbl : Nat.ble (len + ys.length) cap with
    | true =>
      rw [hbl] at he1
      simp only [cond_true, Option.map_eq_some_iff, Prod.mk.injEq] at he1
      obtain ⟨m1, hwr, rfl, rfl⟩ := he1
      have hle := Nat.le_of_ble_eq_true hbl
      have ha := hne' (by omega)
      subst ha
      have hcs := elems_cells hen hsz
      obtain ⟨b', off', cur, el, e1, hcur, hfit, hst⟩ := write_ok (ca := ca) hw hwr (VR.ptr hbb) news hcs.len.symm hcs.get (fun b => by rw [clCells_map_nz]; omega)
      cases e1
      have hstore := run_storeCells_at (P := P) b (off + len * i.size) el news 0 cur w hcur (by simpa using hfit) (elems_one hen hsz)
      simp only [Nat.add_zero] at hstore
      have hr := run_append_room (ty := ty) (base := some ⟨b, off, none⟩) (sLen := len) (sCap := cap') ht hu hd hi hlen hfc (by omega) (fun a ha => by cases ha; rw [add_plain]; exact hstore) (by simp)
      refine ⟨g, _, _, .inl (hrun _ _ (by rw [ex]; exact hr)), hst.cast_unit (.oslice hle hcc ⟨b, hbb, fun _ => rfl, hcap'⟩) trivial (fun b => clV_zero_of (by simp) (by simp) b)⟩
    | false =>
      rw [hbl] at he1
      simp only [cond_false] at he1
      obtain ⟨hoff, he2⟩ := bif_some he1
      clear he1
      obtain rfl := Nat.eq_of_beq_eq_true hoff
      split at he2
      · rename_i cs hget
        obtain ⟨hc2, he⟩ := bif_some he2
        clear he2
        simp only [Bool.and_eq_true, List.all_eq_true] at hc2
        have hcl := Nat.eq_of_beq_eq_true hc2.1.1
        have h32 := Nat.le_of_ble_eq_true hc2.2
        simp only [Option.some.injEq, Prod.mk.injEq] at he
        obtain ⟨rfl, rfl⟩ := he
        have hlt : cap < len + ys.length := by
          have : ¬ (len + ys.length ≤ cap) := fun h => by rw [Nat.ble_eq_true_of_le h] at hbl; cases hbl
          omega
        obtain ⟨b2, hb2, hlg, ⟨cur, el, hcur, hcsz, hcells⟩⟩ := hw.get hget
        obtain rfl : b = b2 := by rw [hbb] at hb2; exact Option.some.inj hb2
        have hbsz := hw.bsz id b hbb cur el _ hcur
        have hCof : ∀ nw, ElemsR g i.size ys nw → CellsR g ((cs ++ ys.flatten).map PVal.nz0) (cur.toList.take (len * i.size) ++ nw) := by
          intro nw hnw
          have hE := elems_cells hnw hsz
          have htl : (cur.toList.take (len * i.size)).length = len * i.size := by simp; omega
          refine ⟨by simp only [List.map_append, List.length_append, List.length_map, htl, hcl]; rw [← hE.len, List.length_map], fun k c hk => ?_⟩
          rw [List.map_append] at hk
          by_cases hkl : k < cs.length
          · rw [List.getElem?_append_left (by simpa using hkl), List.getElem?_map] at hk
            have hck : cs[k]? = some cs[k] := by simp [hkl]
            rw [hck] at hk
            simp only [Option.map_some, Option.some.injEq] at hk
            subst hk
            obtain ⟨h1, v, h2, h3, _⟩ := hcells k _ hck
            refine ⟨by rw [PVal.isCell_nz0]; exact h1, v, ?_, h3.nz0, OwnOk0_nz0 _ _ _⟩
            rw [List.getElem?_append_left (by rw [htl, ← hcl]; exact hkl), List.getElem?_take_of_lt (by rw [← hcl]; exact hkl)]
            simpa using h2
          · rw [List.getElem?_append_right (by simpa using Nat.le_of_not_lt hkl)] at hk
            obtain ⟨h1, v, h2, h3, h4⟩ := hE.get _ c hk
            refine ⟨h1, v, ?_, h3, h4⟩
            rw [List.getElem?_append_right (by rw [htl, ← hcl]; exact Nat.le_of_not_lt hkl), htl, ← hcl]
            simpa using h2
        have hC := hCof news hen
        have hflat : ∀ c, c ∈ (cs ++ ys.flatten).map PVal.nz0 → c.flat = true := fun c hc => by
          obtain ⟨c0, h0, rfl⟩ := List.mem_map.1 hc
          refine flat_nz ?_
          rcases List.mem_append.1 h0 with h | h
          · exact hc2.1.2 c0 h
          · obtain ⟨x, hx1, hx2⟩ := List.mem_flatten.1 h
            exact (hen.ok x hx1).2 c0 hx2
        by_cases hroom : len + ys.length ≤ cap'
        · -- in the old block
          have ha := hne' (by omega)
          subst ha
          have hfits : cap' * i.size ≤ cur.size := by
            rcases hcap' with h | h
            · omega
            · rw [hbsz]; omega
          have hmul : (len + ys.length) * i.size ≤ cap' * i.size := Nat.mul_le_mul_right _ hroom
          have hnl : news.length = ys.length * i.size := hen.len
          have hsum : len * i.size + news.length = (len + ys.length) * i.size := by rw [hnl, Nat.add_mul]
          have hfit : len * i.size + news.length ≤ cur.size := by omega
          have hstore := run_storeCells_at (P := P) b (len * i.size) el news 0 cur w hcur (by simpa using hfit) (elems_one hen hsz)
          simp only [Nat.add_zero] at hstore
          have hr := run_append_room (ty := ty) (base := some ⟨b, 0, none⟩) (sLen := len) (sCap := cap') ht hu hd hi hlen hfc hroom (fun a ha => by cases ha; rw [add_plain, Nat.zero_add]; exact hstore) (by simp)
          refine ⟨_, _, _, .inl (hrun _ _ (by rw [ex]; exact hr)), again_ok (cs0 := cs) hw hget hbb hcur (by simp; omega) ?_ ?_ (flat_under hflat) (fun k => clCells_map_nz _ _ _) (.oslice (Nat.le_refl _) hroom ⟨b, ?_, fun _ => rfl, .inr ?_⟩) (by simp) (by simp)⟩
          · rw [hC.len]; simp
          · intro k c hk
            obtain ⟨h1, v, h2, h3, h4⟩ := hC.get k c hk
            exact ⟨h1, v, pre_get (List.prefix_append _ _) h2, h3, h4⟩
          · show (g.φ ++ [b])[m.next]? = some b
            rw [← hw.len, List.getElem?_append_right (Nat.le_refl _)]; simp
          · show 0 + cap' * i.size ≤ (if b = b then g.bs b else g.bs b)
            rw [if_pos rfl, ← hbsz]; omega
        · have hul : (cur.toList.take (len * i.size)).length = len * i.size := by simp; omega
          have hC' := hCof news' hen'
          obtain ⟨g', w', v, h2, h3⟩ := more (m.del id) a len cap' _ _ (wi_drew (hw.del id)) rfl ex (by omega) h32 hul hC' (fun k => clCells_map_nz _ _ _) (by
            by_cases hc0 : cap' = 0
            · have hl0 : len = 0 := by omega
              subst hl0
              cases a with
              | none => simp [Builtin.firstCells]
              | some a => exact run_firstCells_list (by simp) (by simp)
            · have ha := hne' hc0
              subst ha
              refine run_firstCells_list hul fun k u hk => ?_
              rw [add_plain, Nat.zero_add]
              have hcur' : w.drew.heap[b]? = some (.cells cur el (0, 0)) := hcur
              rw [cell_of_heap hcur']
              have hkl := (List.getElem?_eq_some_iff.1 hk).1
              rw [hul] at hkl
              rw [List.getElem?_take_of_lt hkl] at hk
              simpa using hk)
          exact ⟨g', w', v, .inl h2, h3.of_drew.of_del⟩
      · cases he2
  | _ => simp at he

end
end Go.Ev

