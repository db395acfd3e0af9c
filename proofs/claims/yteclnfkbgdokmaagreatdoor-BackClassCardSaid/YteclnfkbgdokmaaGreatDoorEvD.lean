/- One of the texts that the proof of the law rests on: it has no condition of its own. -/
import Derived.Test.YteclnfkbgdokmaaGreatDoorEvC
/- Does an operation of the evaluator's stand for one of the model's? And what it comes to. -/
namespace Go.Ev

def isBoolT (P : Program) (t : TypeId) : Bool := match P.underlying t with | some .bool => true | _ => false
def isStrT (P : Program) (t : TypeId) : Bool := match P.underlying t with | some .string => true | _ => false
def isPtrT (P : Program) (t : TypeId) : Bool := match P.underlying t with | some (.pointer _) => true | _ => false
def isIfcT (P : Program) (t : TypeId) : Bool := match P.underlying t with | some (.interface _) => true | _ => false
def notIfcT (P : Program) (t : TypeId) : Bool := match P.underlying t with | some (.interface _) => false | some _ => true | none => false
def isMapT (P : Program) (t : TypeId) : Bool := match P.underlying t with | some (.map _ _) => true | _ => false
def isIntT (P : Program) (t : TypeId) (k : IntKind) : Bool := match P.underlying t with | some (.int k') => decide (k' = k) | _ => false
def elemOk (P : Program) (t : TypeId) (sz : Nat) : Bool :=
  match P.underlying t with
  | some (.slice e) => (match P.info? e with | some i => i.size.beq sz && !sz.beq 0 | none => false)
  | _ => false
def srcOk (P : Program) (t : TypeId) : Bool := match P.underlying t with | some (.slice _) | some .string => true | _ => false
def rowOk (P : Program) (t : TypeId) (z : List PVal) : Bool :=
  match P.underlying t with
  | some (.slice e) => (match P.info? e with
    | some i => (match i.zero with
      | some v => i.size.beq z.length && !z.length.beq 0 && valsOk v.cells.toList z && Nat.ble i.bytes 32768
      | none => false)
    | none => false)
  | _ => false
def appOk (P : Program) (t : TypeId) (sz : Nat) : Bool :=
  match P.underlying t with
  | some (.slice e) => (match P.info? e with
    | some i => (match i.zero with
      | some v => i.size.beq sz && !sz.beq 0 && v.cells.size.beq sz && Nat.ble i.bytes 32768
      | none => false)
    | none => false)
  | _ => false
def arrOk (P : Program) (t : TypeId) (n sz : Nat) : Bool :=
  match P.underlying t with
  | some (.array k e) => k.beq n && sizeOk P e sz
  | _ => false
def placeOk (P : Program) (t : TypeId) (is : List Nat) (qs : List (Nat × Nat)) : Bool :=
  match P.underlying t with
  | some (.struct fs) => (match placesOf P fs.toList with | some l => partsOk (fun i => l[i]?) is qs | none => false)
  | some (.array _ e) => (match P.info? e with | some inf => partsOk (fun i => some (i * inf.size, inf.size)) is qs | none => false)
  | _ => false
def oneOk (P : Program) (t : TypeId) (agg : Bool) (n : Nat) : Bool := aggOk P t agg && sizeOk P t n && (agg || n.beq 1)
def fieldOk (P : Program) (t : TypeId) (j off : Nat) (sz : Option (Bool × Nat)) : Bool :=
  match P.underlying t with
  | some (.struct fs) => (match fs[j]? with
    | some f => f.offset.beq off && (match sz with | some (a, n) => oneOk P f.type a n | none => (match P.info? f.type with | some i => !i.size.beq 0 | none => false))
    | none => false)
  | _ => false
def keyTOk (P : Program) (kt : TypeId) (kk : Nat) : Bool :=
  match P.underlying kt, kk with
  | some (.int _), 0 | some .string, 1 | some .bool, 2 => true
  | some (.array len e), k + 3 => k.beq len && (match P.underlying e with | some (.int _) => (match P.info? e with | some i => i.size.beq 1 | none => false) | _ => false) && eqOk P 100 kt len
  | _, _ => false
def mapOk (P : Program) (t : TypeId) (kk : Nat) (zero : PVal) : Bool :=
  match P.underlying t with
  | some (.map kt et) => keyTOk P kt kk && zeroVOk P et zero
  | _ => false
def mapKOk (P : Program) (t : TypeId) (kk : Nat) : Bool :=
  match P.underlying t with
  | some (.map kt _) => keyTOk P kt kk
  | _ => false

def lenOk (P : Program) (t : TypeId) : Nat → Bool
  | 0 => (match P.underlying t with | some (.slice _) => true | _ => false)
  | 1 => isStrT P t
  | 2 => isMapT P t
  | _ => false

def callOk (P : Program) (c : Call) (mo : MOp) : Bool :=
  match mo with
  | .append sz _ => (match c.callee with
    | .builtin .append => (match c.args.toList, c.argTypes.toList with | [_, _], [t, u] => appOk P t sz && srcOk P u | _, _ => false)
    | _ => false)
  | .copy sz => (match c.callee with
    | .builtin .copy => (match c.args.toList, c.argTypes.toList with | [_, _], [t, _] => elemOk P t sz | _, _ => false)
    | _ => false)
  | .clear z => (match c.callee with
    | .builtin .clear => (match c.args.toList, c.argTypes.toList with | [_], [t] => rowOk P t z | _, _ => false)
    | _ => false)
  | .len k => (match c.callee with
    | .builtin .len => (match c.args.toList, c.argTypes.toList with
      | [_], [t] => lenOk P t k
      | _, _ => false)
    | _ => false)
  | .lenA n => (match c.callee with
    | .builtin .len => (match c.args.toList, c.argTypes.toList with
      | [_], [t] => (match P.underlying t with | some (.array k _) => k.beq n | _ => false)
      | _, _ => false)
    | _ => false)
  | .mm isMax => (match c.callee with
    | .builtin .max => isMax
    | .builtin .min => !isMax
    | _ => false)
  | .call => (match c.callee with | .value _ => true | _ => false)
  | .clone f _ _ => (match c.callee, c.args.toList with | .value (.func g), [_] => f.beq g | _, _ => false)
  | _ => false

def opOk (P : Program) (op : Op) (mo : MOp) : Bool :=
  match mo with
  | .move => (match op with | .move _ | .assign _ => true | _ => false)
  | .pick => (match op with | .pick _ _ _ => true | _ => false)
  | .box _ => (match op with | .box _ _ => true | _ => false)
  | .alloc z => (match op with | .alloc t => zeroOk P t z | _ => false)
  | .allocF z => (match op with | .alloc t => zeroOk P t z | _ => false)
  | .init n _ => (match op with | .store t (.tmp _) _ => sizeOk P t n | _ => false)
  | .build _ z qs => (match op with | .build t parts => zeroOk P t z && placeOk P t (parts.toList.map (·.1)) qs | _ => false)
  | .mkslice sz n z idx obj => (match op with
    | .buildSlice t n' parts => n'.beq n && decide (parts.toList.map (·.1) = idx) && rowOk P t z && z.length.beq sz && Nat.ble (n * sz) 16777216 && (!obj || !(n * sz).beq 0)
    | _ => false)
  | .load agg n steal => (match op with | .load t _ => oneOk P t agg n && (!steal || (!agg && n.beq 1)) | _ => false)
  | .store n _ _ => (match op with | .store t _ _ => sizeOk P t n | _ => false)
  | .nilchk => (match op with | .nilCheck _ => true | _ => false)
  | .bin b => (match op with | .binOp b' _ _ _ _ => decide (b' = b) | _ => false)
  | .binB neg => (match op with | .binOp b t _ _ _ => isBoolT P t && decide (b = bif neg then .neq else .eql) | _ => false)
  | .eqvP neg => (match op with | .binOp b t _ _ _ => isPtrT P t && decide (b = bif neg then .neq else .eql) | _ => false)
  | .eqvI neg => (match op with | .binOp b t x y _ => isIfcT P t && decide (b = bif neg then .neq else .eql) && (isConst x || isConst y) | _ => false)
  | .eqvA neg n => (match op with | .binOp b t _ _ _ => eqOk P 100 t n && aggTy P t && !P.eqGuardType P.depth t && decide (b = bif neg then .neq else .eql) | _ => false)
  | .mapset kk => (match op with | .mapUpdate t _ _ _ | .insert t _ _ _ => mapKOk P t kk | _ => false)
  | .un u => (match op with | .unOp u' _ _ => decide (u' = u) | _ => false)
  | .conv k => (match op with | .convert s d _ => (P.underlying s).isSome && isIntT P d k | _ => false)
  | .iface t => (match op with | .makeInterface t' _ => t'.beq t && notIfcT P t' | _ => false)
  | .mkfn f => (match op with | .makeFunc (.func f') first _ => f'.beq f && first.isEmpty | _ => false)
  | .mkmap => (match op with | .makeMap _ none => true | _ => false)
  | .mkrow z _ => (match op with | .makeSlice t _ _ => rowOk P t z | _ => false)
  | .sliceS sz lo hi mx => (match op with
    | .slice t _ l h x => l.isSome == lo && h.isSome == hi && x.isSome == mx && (bif sz.beq 0 then isStrT P t else elemOk P t sz)
    | _ => false)
  | .sliceA n sz lo hi mx => (match op with
    | .slice t _ l h x => l.isSome == lo && h.isSome == hi && x.isSome == mx && arrOk P t n sz
    | _ => false)
  | .fadd off => (match op with | .fieldAddr t _ j => fieldOk P t j off none | _ => false)
  | .idxS sz => (match op with | .indexAddr t _ _ => elemOk P t sz | _ => false)
  | .idxA n sz => (match op with | .indexAddr t _ _ => arrOk P t n sz | _ => false)
  | .fld agg off n => (match op with | .field t _ j => fieldOk P t j off (some (agg, n)) | _ => false)
  | .idxV agg len n => (match op with
    | .index t _ _ => (match P.underlying t with | some (.array k e) => k.beq len && oneOk P e agg n | _ => false)
    | _ => false)
  | .lookup kk zero ok => (match op with | .lookup t _ _ ok' => ok' == ok && mapOk P t kk zero | _ => false)
  | .assert t zero => (match op with | .typeAssert _ _ t' ok => ok && t'.beq t && notIfcT P t' && zeroVOk P t' zero | _ => false)
  | .extract i => (match op with | .extract _ j => j.beq i | _ => false)
  | mo => (match op with | .call c => callOk P c mo | _ => false)

section
variable {P : Program} {t : TypeId}
theorem isBoolT_spec (h : isBoolT P t = true) : P.underlying t = some .bool := by unfold isBoolT at h; split at h <;> first | assumption | cases h
theorem isStrT_spec (h : isStrT P t = true) : P.underlying t = some .string := by unfold isStrT at h; split at h <;> first | assumption | cases h
theorem isPtrT_spec (h : isPtrT P t = true) : ∃ e, P.underlying t = some (.pointer e) := by unfold isPtrT at h; split at h <;> first | exact ⟨_, by assumption⟩ | cases h
theorem isIfcT_spec (h : isIfcT P t = true) : ∃ e, P.underlying t = some (.interface e) := by unfold isIfcT at h; split at h <;> first | exact ⟨_, by assumption⟩ | cases h
theorem isMapT_spec (h : isMapT P t = true) : ∃ k e, P.underlying t = some (.map k e) := by unfold isMapT at h; split at h <;> first | exact ⟨_, _, by assumption⟩ | cases h
theorem isIntT_spec {k : IntKind} (h : isIntT P t k = true) : P.underlying t = some (.int k) := by
  unfold isIntT at h; split at h
  · have := of_decide_eq_true h; subst this; first | assumption | done
  · cases h
theorem notIfcT_spec (h : notIfcT P t = true) : ∃ d, P.underlying t = some d ∧ ∀ ms, d ≠ .interface ms := by
  unfold notIfcT at h; split at h
  · cases h
  · rename_i d hd hu; exact ⟨d, hu, fun ms e => hd ms (by rw [← e])⟩
  · cases h
theorem sizeOk_spec {n : Nat} (h : sizeOk P t n = true) : ∃ i, P.info? t = some i ∧ i.size = n := by
  unfold sizeOk at h; split at h
  · rename_i i hi; exact ⟨i, hi, Nat.eq_of_beq_eq_true h⟩
  · cases h
theorem elemOk_spec {sz : Nat} (h : elemOk P t sz = true) : ∃ e i, P.underlying t = some (.slice e) ∧ P.info? e = some i ∧ i.size = sz ∧ sz ≠ 0 := by
  unfold elemOk at h; split at h
  · split at h
    · simp only [Bool.and_eq_true, Bool.not_eq_true'] at h
      exact ⟨_, _, by assumption, by assumption, Nat.eq_of_beq_eq_true h.1, fun e => by subst e; simp at h⟩
    · cases h
  · cases h
theorem srcOk_spec (h : srcOk P t = true) : ∃ d, P.underlying t = some d ∧ ((∃ e, d = .slice e) ∨ d = .string) := by
  unfold srcOk at h; split at h
  · exact ⟨_, by assumption, .inl ⟨_, rfl⟩⟩
  · exact ⟨_, by assumption, .inr rfl⟩
  · cases h
theorem rowOk_spec {z : List PVal} (h : rowOk P t z = true) : ∃ e i v, P.underlying t = some (.slice e) ∧ P.info? e = some i ∧ i.zero = some v ∧ i.size = z.length ∧ z.length ≠ 0 ∧ valsOk v.cells.toList z = true ∧ i.bytes ≤ 32768 := by
  unfold rowOk at h; split at h
  · split at h
    · split at h
      · simp only [Bool.and_eq_true, Bool.not_eq_true', Nat.ble_eq] at h
        exact ⟨_, _, _, by assumption, by assumption, by assumption, Nat.eq_of_beq_eq_true h.1.1.1, fun e => by rw [e] at h; simp at h, h.1.2, h.2⟩
      · cases h
    · cases h
  · cases h
theorem appOk_spec {sz : Nat} (h : appOk P t sz = true) : ∃ e i v, P.underlying t = some (.slice e) ∧ P.info? e = some i ∧ i.zero = some v ∧ i.size = sz ∧ sz ≠ 0 ∧ v.cells.size = sz ∧ i.bytes ≤ 32768 := by
  unfold appOk at h; split at h
  · split at h
    · split at h
      · simp only [Bool.and_eq_true, Bool.not_eq_true', Nat.ble_eq] at h
        exact ⟨_, _, _, by assumption, by assumption, by assumption, Nat.eq_of_beq_eq_true h.1.1.1, fun e => by subst e; simp at h, Nat.eq_of_beq_eq_true h.1.2, h.2⟩
      · cases h
    · cases h
  · cases h
theorem arrOk_spec {n sz : Nat} (h : arrOk P t n sz = true) : ∃ e i, P.underlying t = some (.array n e) ∧ P.info? e = some i ∧ i.size = sz := by
  unfold arrOk at h; split at h
  · rename_i k e hu
    simp only [Bool.and_eq_true] at h
    obtain ⟨i, hi, hs⟩ := sizeOk_spec h.2
    have := Nat.eq_of_beq_eq_true h.1
    subst this
    exact ⟨e, i, hu, hi, hs⟩
  · cases h
theorem aggOk_some {agg : Bool} (h : aggOk P t agg = true) : ∃ d, P.underlying t = some d := by
  unfold aggOk at h
  cases hu : P.underlying t with
  | none => rw [hu] at h; cases h
  | some d => exact ⟨d, rfl⟩
theorem oneOk_spec {agg : Bool} {n : Nat} (h : oneOk P t agg n = true) : ∃ d i, P.underlying t = some d ∧ P.info? t = some i ∧ i.size = n ∧ aggOk P t agg = true ∧ (agg = true ∨ n = 1) := by
  simp only [oneOk, Bool.and_eq_true, Bool.or_eq_true] at h
  obtain ⟨⟨h1, h2⟩, h3⟩ := h
  obtain ⟨d, hd⟩ := aggOk_some h1
  obtain ⟨i, hi, hs⟩ := sizeOk_spec h2
  exact ⟨d, i, hd, hi, hs, h1, h3.imp id Nat.eq_of_beq_eq_true⟩
theorem zeroOk_spec {z : List PVal} (h : zeroOk P t z = true) : ∃ i v, P.info? t = some i ∧ i.zero = some v ∧ valsOk v.cells.toList z = true := by
  unfold zeroOk at h; split at h
  · split at h
    · exact ⟨_, _, by assumption, by assumption, h⟩
    · cases h
  · cases h
theorem zeroVOk_spec {z : PVal} (h : zeroVOk P t z = true) (g : Gh) : ∃ i v, P.info? t = some i ∧ i.zero = some v ∧ VR g z v ∧ OwnOk g z v ∧ ∀ b, clV z v b = 0 := by
  unfold zeroVOk at h; split at h
  · split at h
    · rename_i cs ps hz
      obtain ⟨hc, hcl⟩ := valsOk_cells h g
      obtain ⟨h1, h2, h3⟩ := agg_of_cells (g := g) (cs := ps) (c := cs) hc
      exact ⟨_, _, by assumption, hz, h1, h2, fun b => by rw [h3]; exact hcl b⟩
    · obtain ⟨h1, h2, h3, _⟩ := valOk_vr h g
      exact ⟨_, _, by assumption, by assumption, h1, h2, h3⟩
    · cases h
  · cases h
end

end Go.Ev

/- What one operation comes to. -/
namespace Go.Ev

section
variable {P : Program} {ρ : Operand → Value} {g : Gh} {w : World} {m : Mem} {dst : Option Tmp} {ty : TypeId} {pos : String} {after : Array Edge} {guard : Option (Nat × Bool)} {ca : Nat → Nat}
  {call : CallF} {op : Op} {ps : List PVal} {r : PVal} {m' : Mem}

theorem Args.one {v : Value} (h : Args g ps [v]) : ∃ p, ps = [p] ∧ Arg g p v := by
  cases h with | cons h1 h2 => cases h2; exact ⟨_, rfl, h1⟩
theorem Args.two {v u : Value} (h : Args g ps [v, u]) : ∃ p q, ps = [p, q] ∧ Arg g p v ∧ Arg g q u := by
  cases h with | cons h1 h2 => obtain ⟨q, rfl, h3⟩ := h2.one; exact ⟨_, q, rfl, h1, h3⟩
theorem Args.three {v u x : Value} (h : Args g ps [v, u, x]) : ∃ p q s, ps = [p, q, s] ∧ Arg g p v ∧ Arg g q u ∧ Arg g s x := by
  cases h with | cons h1 h2 => obtain ⟨q, s, rfl, h3, h4⟩ := h2.two; exact ⟨_, q, s, rfl, h1, h3, h4⟩

theorem clA_one {p : PVal} {v : Value} (h : ∀ b, clA [p] [v] b ≤ ca b) : ∀ b, clV p v b ≤ ca b := fun b => by simpa [clA] using h b

theorem core_move (hok : opOk P op .move = true) (hw : WI g w m) (ha : Args g ps ((argsOf op .move).map ρ)) (hca : ∀ b, clA ps ((argsOf op .move).map ρ) b ≤ ca b) (he : core call .move ps m = some (r, m')) :
    Res P ρ ⟨dst, op, ty, pos, after, guard⟩ ca g w m r m' := by
  cases op with
  | move x =>
    obtain ⟨p, rfl, hp⟩ := Args.one (v := ρ x) ha
    simp only [core, Option.some.injEq, Prod.mk.injEq] at he
    obtain ⟨rfl, rfl⟩ := he
    exact sim_move hw hp (clA_one hca)
  | assign x =>
    obtain ⟨p, rfl, hp⟩ := Args.one (v := ρ x) ha
    simp only [core, Option.some.injEq, Prod.mk.injEq] at he
    obtain ⟨rfl, rfl⟩ := he
    exact sim_assign hw hp (clA_one hca)
  | _ => exact absurd hok Bool.false_ne_true

theorem core_pick (hok : opOk P op (.pick) = true) (hw : WI g w m) (ha : Args g ps ((argsOf op (.pick)).map ρ)) (hca : ∀ b, clA ps ((argsOf op (.pick)).map ρ) b ≤ ca b) (he : core call (.pick) ps m = some (r, m')) :
    Res P ρ ⟨dst, op, ty, pos, after, guard⟩ ca g w m r m' := by
  cases op with
  | pick x y z =>
    obtain ⟨p, q, s, rfl, hp, hq, hs⟩ := Args.three (v := ρ x) (u := ρ y) (x := ρ z) ha
    cases p <;> simp only [core, Option.some.injEq, Prod.mk.injEq, reduceCtorEq] at he
    obtain ⟨rfl, rfl⟩ := he
    exact sim_pick hw hp.vr hq hs fun b => by have := hca b; simp only [argsOf, List.map, clA] at this; omega
  | _ => exact absurd hok Bool.false_ne_true
theorem core_box {keep : Bool} (hok : opOk P op (.box keep) = true) (hw : WI g w m) (ha : Args g ps ((argsOf op (.box keep)).map ρ)) (hca : ∀ b, clA ps ((argsOf op (.box keep)).map ρ) b ≤ ca b) (he : core call (.box keep) ps m = some (r, m')) :
    Res P ρ ⟨dst, op, ty, pos, after, guard⟩ ca g w m r m' := by
  cases op with
  | box t x =>
    obtain ⟨p, rfl, hp⟩ := Args.one (v := ρ x) ha
    simp only [core, Option.map_eq_some_iff, Prod.mk.injEq] at he
    obtain ⟨cs, hcs, rfl, rfl⟩ := he
    exact sim_box hw hp (clA_one hca) hcs
  | _ => exact absurd hok Bool.false_ne_true
theorem core_alloc {z : List PVal} (hok : opOk P op (.alloc z) = true) (hw : WI g w m) (ha : Args g ps ((argsOf op (.alloc z)).map ρ)) (hca : ∀ b, clA ps ((argsOf op (.alloc z)).map ρ) b ≤ ca b) (he : core call (.alloc z) ps m = some (r, m')) :
    Res P ρ ⟨dst, op, ty, pos, after, guard⟩ ca g w m r m' := by
  cases op with
  | alloc t =>
    obtain ⟨i, v, hi, hz, hzok⟩ := zeroOk_spec (show zeroOk P t z = true from hok)
    cases ha
    simp only [core, Option.some.injEq, Prod.mk.injEq] at he
    obtain ⟨rfl, rfl⟩ := he
    exact sim_alloc hw hi hz hzok
  | _ => exact absurd hok Bool.false_ne_true
theorem core_build {keep : Bool} {z : List PVal} {qs : List (Nat × Nat)} (hok : opOk P op (.build keep z qs) = true) (hw : WI g w m) (ha : Args g ps ((argsOf op (.build keep z qs)).map ρ)) (hca : ∀ b, clA ps ((argsOf op (.build keep z qs)).map ρ) b ≤ ca b) (he : core call (.build keep z qs) ps m = some (r, m')) :
    Res P ρ ⟨dst, op, ty, pos, after, guard⟩ ca g w m r m' := by
  cases op with
  | build t parts =>
    have hok' : (zeroOk P t z && placeOk P t (parts.toList.map (·.1)) qs) = true := hok
    rw [Bool.and_eq_true] at hok'
    obtain ⟨i, v, hi, hz, hzok⟩ := zeroOk_spec hok'.1
    have hpl := hok'.2
    simp only [core, Option.map_eq_some_iff, Prod.mk.injEq] at he
    obtain ⟨cs, hcs, rfl, rfl⟩ := he
    unfold placeOk at hpl
    split at hpl
    · split at hpl
      · exact sim_build hw hi hz hzok (by assumption) (.inl ⟨_, _, rfl, by assumption, rfl⟩) hpl ha hca hcs
      · cases hpl
    · split at hpl
      · exact sim_build hw hi hz hzok (by assumption) (.inr ⟨_, _, _, rfl, by assumption, rfl⟩) hpl ha hca hcs
      · cases hpl
    · cases hpl
  | _ => exact absurd hok Bool.false_ne_true
theorem core_mkslice {sz n : Nat} {z : List PVal} {idx : List Nat} {obj : Bool} (hok : opOk P op (.mkslice sz n z idx obj) = true) (hw : WI g w m) (ha : Args g ps ((argsOf op (.mkslice sz n z idx obj)).map ρ)) (hca : ∀ b, clA ps ((argsOf op (.mkslice sz n z idx obj)).map ρ) b ≤ ca b) (he : core call (.mkslice sz n z idx obj) ps m = some (r, m')) :
    Res P ρ ⟨dst, op, ty, pos, after, guard⟩ ca g w m r m' := by
  cases op with
  | buildSlice t n' parts =>
    have hok' : (n'.beq n && decide (parts.toList.map (·.1) = idx) && rowOk P t z && z.length.beq sz && Nat.ble (n * sz) 16777216 && (!obj || !(n * sz).beq 0)) = true := hok
    simp only [Bool.and_eq_true, Bool.or_eq_true, Bool.not_eq_true', Nat.ble_eq] at hok'
    obtain ⟨⟨⟨⟨⟨h1, h2⟩, h3⟩, h4⟩, h5⟩, h6⟩ := hok'
    obtain rfl := Nat.eq_of_beq_eq_true h1
    obtain rfl := of_decide_eq_true h2
    obtain rfl := Nat.eq_of_beq_eq_true h4
    obtain ⟨e, i, v, hu, hi, hz, hs, hne, hzok, hb⟩ := rowOk_spec h3
    simp only [core, Option.bind_eq_some_iff] at he
    obtain ⟨xs, hxs, he⟩ := he
    cases obj with
    | true =>
      simp only [cond_true, Option.some.injEq, Prod.mk.injEq] at he
      obtain ⟨rfl, rfl⟩ := he
      exact sim_mkslice_obj hw hu hi hs hz hzok rfl h5 (fun h0 => by rcases h6 with h6 | h6 <;> simp_all) ha hxs
    | false =>
      simp only [cond_false] at he
      obtain ⟨hf, he⟩ := bif_some he
      simp only [Option.some.injEq, Prod.mk.injEq] at he
      obtain ⟨rfl, rfl⟩ := he
      exact sim_mkslice hw hu hi hs hz hzok rfl h5 hne ha hxs hf
  | _ => exact absurd hok Bool.false_ne_true
theorem core_load {agg : Bool} {n : Nat} {steal : Bool} (hok : opOk P op (.load agg n steal) = true) (hw : WI g w m) (ha : Args g ps ((argsOf op (.load agg n steal)).map ρ)) (hca : ∀ b, clA ps ((argsOf op (.load agg n steal)).map ρ) b ≤ ca b) (he : core call (.load agg n steal) ps m = some (r, m')) :
    Res P ρ ⟨dst, op, ty, pos, after, guard⟩ ca g w m r m' := by
  cases op with
  | load t x =>
    have hok' : (oneOk P t agg n && (!steal || (!agg && n.beq 1))) = true := hok
    simp only [Bool.and_eq_true, Bool.or_eq_true, Bool.not_eq_true'] at hok'
    obtain ⟨d, i, hu, hi, hs, hag, hn⟩ := oneOk_spec hok'.1
    obtain ⟨p, rfl, hp⟩ := Args.one (v := ρ x) ha
    simp only [core, Option.bind_eq_some_iff] at he
    obtain ⟨cs, hcs, he⟩ := he
    cases steal with
    | true =>
      obtain ⟨ha1, hn1⟩ : agg = false ∧ n.beq 1 = true := by simpa using hok'.2
      subst ha1
      obtain rfl := Nat.eq_of_beq_eq_true hn1
      simp only [cond_true] at he
      split at he
      · simp only [Option.map_eq_some_iff, Prod.mk.injEq] at he
        obtain ⟨m1, hm1, rfl, rfl⟩ := he
        exact sim_steal hw hu hi hs hag hp.vr hcs hm1
      · cases he
    | false =>
      simp only [cond_false, Option.map_eq_some_iff, Prod.mk.injEq] at he
      obtain ⟨v, hv, rfl, rfl⟩ := he
      exact sim_load hw hu hi hs hag hn hp.vr hcs hv
  | _ => exact absurd hok Bool.false_ne_true
theorem core_store {n : Nat} {keep frz : Bool} (hok : opOk P op (.store n keep frz) = true) (hw : WI g w m) (ha : Args g ps ((argsOf op (.store n keep frz)).map ρ)) (hca : ∀ b, clA ps ((argsOf op (.store n keep frz)).map ρ) b ≤ ca b) (he : core call (.store n keep frz) ps m = some (r, m')) :
    Res P ρ ⟨dst, op, ty, pos, after, guard⟩ ca g w m r m' := by
  cases op with
  | store t x y =>
    obtain ⟨i, hi, hs⟩ := sizeOk_spec (show sizeOk P t n = true from hok)
    obtain ⟨p, q, rfl, hp, hq⟩ := Args.two (v := ρ x) (u := ρ y) ha
    have hcq : ∀ b, clV q (ρ y) b ≤ ca b := fun b => by have := hca b; simp only [argsOf, List.map, clA] at this; omega
    simp only [core, Option.bind_eq_some_iff] at he
    obtain ⟨⟨x', m1⟩, hf, cs, hcs, he⟩ := he
    obtain ⟨hn, he⟩ := bif_some he
    have hn := Nat.eq_of_beq_eq_true hn
    simp only [Option.map_eq_some_iff, Prod.mk.injEq] at he
    obtain ⟨m2, hm2, rfl, rfl⟩ := he
    cases frz with
    | true => exact sim_storeFrz hw hi hs hp.vr hq hcq hf hcs hn hm2
    | false =>
      simp only [cond_false, Option.some.injEq, Prod.mk.injEq] at hf
      obtain ⟨rfl, rfl⟩ := hf
      exact sim_store hw hi hs hp.vr hq hcq hcs hn hm2
  | _ => exact absurd hok Bool.false_ne_true
theorem core_nilchk (hok : opOk P op (.nilchk) = true) (hw : WI g w m) (ha : Args g ps ((argsOf op (.nilchk)).map ρ)) (hca : ∀ b, clA ps ((argsOf op (.nilchk)).map ρ) b ≤ ca b) (he : core call (.nilchk) ps m = some (r, m')) :
    Res P ρ ⟨dst, op, ty, pos, after, guard⟩ ca g w m r m' := by
  cases op with
  | nilCheck x =>
    obtain ⟨p, rfl, hp⟩ := Args.one (v := ρ x) ha
    simp only [core] at he
    split at he
    · cases he
    · cases he
    · cases he
    · rename_i h1 h2 h3
      simp only [Option.some.injEq, Prod.mk.injEq] at he
      obtain ⟨rfl, rfl⟩ := he
      exact sim_nilchk hw hp h1 h2 h3 (clA_one hca)
  | _ => exact absurd hok Bool.false_ne_true
theorem core_bin {bo : BinOp} (hok : opOk P op (.bin bo) = true) (hw : WI g w m) (ha : Args g ps ((argsOf op (.bin bo)).map ρ)) (hca : ∀ b, clA ps ((argsOf op (.bin bo)).map ρ) b ≤ ca b) (he : core call (.bin bo) ps m = some (r, m')) :
    Res P ρ ⟨dst, op, ty, pos, after, guard⟩ ca g w m r m' := by
  cases op with
  | binOp b' t x y u =>
    obtain rfl : b' = bo := of_decide_eq_true (show decide (b' = bo) = true from hok)
    obtain ⟨p, q, rfl, hp, hq⟩ := Args.two (v := ρ x) (u := ρ y) ha
    simp only [core, Option.map_eq_some_iff, Prod.mk.injEq] at he
    obtain ⟨v, hv, rfl, rfl⟩ := he
    exact sim_bin hw hp.vr hq.vr hv
  | _ => exact absurd hok Bool.false_ne_true
theorem core_binB {neg : Bool} (hok : opOk P op (.binB neg) = true) (hw : WI g w m) (ha : Args g ps ((argsOf op (.binB neg)).map ρ)) (hca : ∀ b, clA ps ((argsOf op (.binB neg)).map ρ) b ≤ ca b) (he : core call (.binB neg) ps m = some (r, m')) :
    Res P ρ ⟨dst, op, ty, pos, after, guard⟩ ca g w m r m' := by
  cases op with
  | binOp b' t x y u =>
    have hok' : (isBoolT P t && decide (b' = bif neg then .neq else .eql)) = true := hok
    rw [Bool.and_eq_true] at hok'
    obtain ⟨p, q, rfl, hp, hq⟩ := Args.two (v := ρ x) (u := ρ y) ha
    cases p <;> cases q <;> simp only [core, Option.some.injEq, Prod.mk.injEq, reduceCtorEq] at he
    obtain ⟨rfl, rfl⟩ := he
    exact sim_binB hw (isBoolT_spec hok'.1) (of_decide_eq_true hok'.2) hp.vr hq.vr
  | _ => exact absurd hok Bool.false_ne_true
theorem core_eqvP {neg : Bool} (hok : opOk P op (.eqvP neg) = true) (hw : WI g w m) (ha : Args g ps ((argsOf op (.eqvP neg)).map ρ)) (hca : ∀ b, clA ps ((argsOf op (.eqvP neg)).map ρ) b ≤ ca b) (he : core call (.eqvP neg) ps m = some (r, m')) :
    Res P ρ ⟨dst, op, ty, pos, after, guard⟩ ca g w m r m' := by
  cases op with
  | binOp b' t x y u =>
    have hok' : (isPtrT P t && decide (b' = bif neg then .neq else .eql)) = true := hok
    rw [Bool.and_eq_true] at hok'
    obtain ⟨e, hu⟩ := isPtrT_spec hok'.1
    obtain ⟨p, q, rfl, hp, hq⟩ := Args.two (v := ρ x) (u := ρ y) ha
    simp only [core, Option.map_eq_some_iff, Prod.mk.injEq] at he
    obtain ⟨v, hv, rfl, rfl⟩ := he
    exact sim_eqvP hw hu (of_decide_eq_true hok'.2) hp.vr hq.vr hv
  | _ => exact absurd hok Bool.false_ne_true
theorem core_eqvI {neg : Bool} (hok : opOk P op (.eqvI neg) = true) (hw : WI g w m) (ha : Args g ps ((argsOf op (.eqvI neg)).map ρ)) (hca : ∀ b, clA ps ((argsOf op (.eqvI neg)).map ρ) b ≤ ca b) (he : core call (.eqvI neg) ps m = some (r, m')) :
    Res P ρ ⟨dst, op, ty, pos, after, guard⟩ ca g w m r m' := by
  cases op with
  | binOp b' t x y u =>
    have hok' : (isIfcT P t && decide (b' = bif neg then .neq else .eql) && (isConst x || isConst y)) = true := hok
    simp only [Bool.and_eq_true, Bool.or_eq_true] at hok'
    obtain ⟨e, hu⟩ := isIfcT_spec hok'.1.1
    obtain ⟨p, q, rfl, hp, hq⟩ := Args.two (v := ρ x) (u := ρ y) ha
    simp only [core, Option.map_eq_some_iff, Prod.mk.injEq] at he
    obtain ⟨v, hv, rfl, rfl⟩ := he
    exact sim_eqvI hw hu (of_decide_eq_true hok'.1.2) hok'.2 hp.vr hq.vr hv
  | _ => exact absurd hok Bool.false_ne_true
theorem core_un {u : UnOp} (hok : opOk P op (.un u) = true) (hw : WI g w m) (ha : Args g ps ((argsOf op (.un u)).map ρ)) (hca : ∀ b, clA ps ((argsOf op (.un u)).map ρ) b ≤ ca b) (he : core call (.un u) ps m = some (r, m')) :
    Res P ρ ⟨dst, op, ty, pos, after, guard⟩ ca g w m r m' := by
  cases op with
  | unOp u' t x =>
    obtain rfl : u' = u := of_decide_eq_true (show decide (u' = u) = true from hok)
    obtain ⟨p, rfl, hp⟩ := Args.one (v := ρ x) ha
    simp only [core] at he
    split at he
    · simp only [Option.some.injEq, Prod.mk.injEq] at he
      obtain ⟨rfl, rfl⟩ := he
      exact sim_not hw hp.vr
    · simp only [Option.some.injEq, Prod.mk.injEq] at he
      obtain ⟨rfl, rfl⟩ := he
      exact sim_neg hw hp.vr
    · cases he
  | _ => exact absurd hok Bool.false_ne_true
theorem core_conv {k : IntKind} (hok : opOk P op (.conv k) = true) (hw : WI g w m) (ha : Args g ps ((argsOf op (.conv k)).map ρ)) (hca : ∀ b, clA ps ((argsOf op (.conv k)).map ρ) b ≤ ca b) (he : core call (.conv k) ps m = some (r, m')) :
    Res P ρ ⟨dst, op, ty, pos, after, guard⟩ ca g w m r m' := by
  cases op with
  | convert s d x =>
    have hok' : ((P.underlying s).isSome && isIntT P d k) = true := hok
    rw [Bool.and_eq_true] at hok'
    obtain ⟨ds, hds⟩ := Option.isSome_iff_exists.1 hok'.1
    obtain ⟨p, rfl, hp⟩ := Args.one (v := ρ x) ha
    cases p <;> simp only [core, Option.some.injEq, Prod.mk.injEq, reduceCtorEq] at he
    obtain ⟨rfl, rfl⟩ := he
    exact sim_conv hw hds (isIntT_spec hok'.2) hp.vr
  | _ => exact absurd hok Bool.false_ne_true
theorem core_iface {t : Nat} (hok : opOk P op (.iface t) = true) (hw : WI g w m) (ha : Args g ps ((argsOf op (.iface t)).map ρ)) (hca : ∀ b, clA ps ((argsOf op (.iface t)).map ρ) b ≤ ca b) (he : core call (.iface t) ps m = some (r, m')) :
    Res P ρ ⟨dst, op, ty, pos, after, guard⟩ ca g w m r m' := by
  cases op with
  | makeInterface t' x =>
    have hok' : (t'.beq t && notIfcT P t') = true := hok
    rw [Bool.and_eq_true] at hok'
    obtain rfl : t' = t := Nat.eq_of_beq_eq_true hok'.1
    obtain ⟨d, hu, hd⟩ := notIfcT_spec hok'.2
    obtain ⟨p, rfl, hp⟩ := Args.one (v := ρ x) ha
    simp only [core] at he
    obtain ⟨hf, he⟩ := bif_some he
    simp only [Option.some.injEq, Prod.mk.injEq] at he
    obtain ⟨rfl, rfl⟩ := he
    exact sim_iface hw hu hd hf hp.vr
  | _ => exact absurd hok Bool.false_ne_true
theorem core_mkmap (hok : opOk P op (.mkmap) = true) (hw : WI g w m) (ha : Args g ps ((argsOf op (.mkmap)).map ρ)) (hca : ∀ b, clA ps ((argsOf op (.mkmap)).map ρ) b ≤ ca b) (he : core call (.mkmap) ps m = some (r, m')) :
    Res P ρ ⟨dst, op, ty, pos, after, guard⟩ ca g w m r m' := by
  cases op with
  | makeMap t x =>
    cases x with
    | none =>
      cases ha
      simp only [core, Option.some.injEq, Prod.mk.injEq] at he
      obtain ⟨rfl, rfl⟩ := he
      exact sim_mkmap hw
    | some _ => exact absurd hok Bool.false_ne_true
  | _ => exact absurd hok Bool.false_ne_true
theorem core_extract {i : Nat} (hok : opOk P op (.extract i) = true) (hw : WI g w m) (ha : Args g ps ((argsOf op (.extract i)).map ρ)) (hca : ∀ b, clA ps ((argsOf op (.extract i)).map ρ) b ≤ ca b) (he : core call (.extract i) ps m = some (r, m')) :
    Res P ρ ⟨dst, op, ty, pos, after, guard⟩ ca g w m r m' := by
  cases op with
  | extract x j =>
    obtain rfl : j = i := Nat.eq_of_beq_eq_true (show j.beq i = true from hok)
    obtain ⟨p, rfl, hp⟩ := Args.one (v := ρ x) ha
    cases p <;> simp only [core, Option.map_eq_some_iff, Prod.mk.injEq, reduceCtorEq] at he
    obtain ⟨v, hv, rfl, rfl⟩ := he
    exact sim_extract hw hp.vr hv
  | _ => exact absurd hok Bool.false_ne_true
end
end Go.Ev

namespace Go.Ev

section
variable {P : Program} {ρ : Operand → Value} {g : Gh} {w : World} {m : Mem} {dst : Option Tmp} {ty : TypeId} {pos : String} {after : Array Edge} {guard : Option (Nat × Bool)} {ca : Nat → Nat}
  {call : CallF} {op : Op} {ps : List PVal} {r : PVal} {m' : Mem}

theorem fieldOk_spec {t : TypeId} {j off : Nat} {sz : Option (Bool × Nat)} (h : fieldOk P t j off sz = true) : ∃ fs f, P.underlying t = some (.struct fs) ∧ fs[j]? = some f ∧ f.offset = off ∧
    (∀ a n, sz = some (a, n) → oneOk P f.type a n = true) ∧ (sz = none → ∃ i, P.info? f.type = some i ∧ i.size ≠ 0) := by
  unfold fieldOk at h; split at h
  · split at h
    · rw [Bool.and_eq_true] at h
      refine ⟨_, _, by assumption, by assumption, Nat.eq_of_beq_eq_true h.1, fun a n e => ?_, fun e => ?_⟩
      · subst e; exact h.2
      · subst e
        have h2 := h.2
        simp only at h2
        split at h2
        · exact ⟨_, by assumption, fun e => by rw [e] at h2; simp at h2⟩
        · cases h2
    · cases h
  · cases h

theorem arr_of_toList {α : Type} {a : Array α} {l : List α} (h : a.toList = l) : a = l.toArray := by rw [← h]

theorem opts_of {lo hi mx : Option Operand} {ρ : Operand → Value} (ha : Args g ps ((lo.toList ++ hi.toList ++ mx.toList).map ρ)) : Args g ps ((lo.toList ++ (hi.toList ++ mx.toList)).map ρ) := by
  rw [List.append_assoc] at ha; exact ha

theorem core_mkfn {f : Nat} (hok : opOk P op (.mkfn f) = true) (hw : WI g w m) (ha : Args g ps ((argsOf op (.mkfn f)).map ρ)) (hca : ∀ b, clA ps ((argsOf op (.mkfn f)).map ρ) b ≤ ca b) (he : core call (.mkfn f) ps m = some (r, m')) :
    Res P ρ ⟨dst, op, ty, pos, after, guard⟩ ca g w m r m' := by
  cases op with
  | makeFunc fn first caps =>
    cases fn with
    | func f' =>
      have hok' : (f'.beq f && first.isEmpty) = true := hok
      rw [Bool.and_eq_true] at hok'
      obtain rfl : f' = f := Nat.eq_of_beq_eq_true hok'.1
      have hf : first = #[] := by simpa using hok'.2
      subst hf
      simp only [core] at he
      obtain ⟨hc, he⟩ := bif_some he
      simp only [Option.some.injEq, Prod.mk.injEq] at he
      obtain ⟨rfl, rfl⟩ := he
      exact sim_mkfn hw ha hc
    | _ => exact absurd hok Bool.false_ne_true
  | _ => exact absurd hok Bool.false_ne_true
theorem core_mkrow {z : List PVal} {obj : Bool} (hok : opOk P op (.mkrow z obj) = true) (hw : WI g w m) (ha : Args g ps ((argsOf op (.mkrow z obj)).map ρ)) (hca : ∀ b, clA ps ((argsOf op (.mkrow z obj)).map ρ) b ≤ ca b) (he : core call (.mkrow z obj) ps m = some (r, m')) :
    Res P ρ ⟨dst, op, ty, pos, after, guard⟩ ca g w m r m' := by
  cases op with
  | makeSlice t x y =>
    obtain ⟨e, i, v, hu, hi, hz, hs, hne, hzok, hb⟩ := rowOk_spec (show rowOk P t z = true from hok)
    obtain ⟨p, q, rfl, hp, hq⟩ := Args.two (v := ρ x) (u := ρ y) ha
    simp only [core, Option.bind_eq_some_iff] at he
    obtain ⟨l, hl, c, hc, he⟩ := he
    obtain ⟨hlc, he1⟩ := bif_some he
    clear he
    have he := he1
    clear he1
    simp only [Bool.and_eq_true, Nat.ble_eq] at hlc
    obtain rfl := Nat.eq_of_beq_eq_true hlc.1
    cases obj with
    | true =>
      simp only [cond_true, Option.some.injEq, Prod.mk.injEq] at he
      obtain ⟨rfl, rfl⟩ := he
      exact sim_mkrow_obj hw hu hi hz hzok hs.symm hb hlc.2 hp.vr hq.vr hl hc
    | false =>
      simp only [cond_false] at he
      obtain ⟨hf, he⟩ := bif_some he
      simp only [Option.some.injEq, Prod.mk.injEq] at he
      obtain ⟨rfl, rfl⟩ := he
      exact sim_mkrow hw hu hi hz hzok hs.symm hb hlc.2 hp.vr hq.vr hl hc hf
  | _ => exact absurd hok Bool.false_ne_true
theorem core_sliceS {sz : Nat} {lo hi mx : Bool} (hok : opOk P op (.sliceS sz lo hi mx) = true) (hw : WI g w m) (ha : Args g ps ((argsOf op (.sliceS sz lo hi mx)).map ρ)) (hca : ∀ b, clA ps ((argsOf op (.sliceS sz lo hi mx)).map ρ) b ≤ ca b) (he : core call (.sliceS sz lo hi mx) ps m = some (r, m')) :
    Res P ρ ⟨dst, op, ty, pos, after, guard⟩ ca g w m r m' := by
  cases op with
  | slice t x l h k =>
    have hok' : (l.isSome == lo && h.isSome == hi && k.isSome == mx && (bif sz.beq 0 then isStrT P t else elemOk P t sz)) = true := hok
    simp only [Bool.and_eq_true, beq_iff_eq] at hok'
    obtain ⟨⟨⟨rfl, rfl⟩, rfl⟩, hty⟩ := hok'
    cases ha with
    | cons hp hr =>
      rename_i p ps
      have hcp : ∀ b, clV p (ρ x) b ≤ ca b := fun b => by have := hca b; simp only [argsOf, List.map, clA] at this; omega
      simp only [core, Option.map_eq_some_iff, Prod.mk.injEq] at he
      obtain ⟨v, hv, rfl, rfl⟩ := he
      have hz0 : (∃ s, p = .str s ∧ sz.beq 0 = true) ∨ ((∀ s, p ≠ .str s) ∧ sz.beq 0 = false) := by
        unfold evSlice at hv
        split at hv
        · simp only [Option.bind_eq_some_iff] at hv
          obtain ⟨⟨a, b, c⟩, _, hv⟩ := hv
          obtain ⟨hc, _⟩ := bif_some hv
          simp only [Bool.and_eq_true] at hc
          exact .inl ⟨_, rfl, hc.2⟩
        · simp only [Option.bind_eq_some_iff] at hv
          obtain ⟨⟨a, b, c⟩, _, hv⟩ := hv
          obtain ⟨hc, _⟩ := bif_some hv
          simp only [Bool.and_eq_true, Bool.not_eq_true'] at hc
          exact .inr ⟨by simp, hc.2⟩
        · simp only [Option.bind_eq_some_iff] at hv
          obtain ⟨⟨a, b, c⟩, _, hv⟩ := hv
          obtain ⟨hc, _⟩ := bif_some hv
          simp only [Bool.and_eq_true, Bool.not_eq_true'] at hc
          exact .inr ⟨by simp, hc.2⟩
        · cases hv
      rcases hz0 with ⟨s, rfl, hz⟩ | ⟨hns, hz⟩
      · rw [hz] at hty
        exact sim_sliceStr hw (isStrT_spec hty) hp.vr (opts_of hr) hv
      · rw [hz] at hty
        obtain ⟨e, i, hu, hi', hs, _⟩ := elemOk_spec (show elemOk P t sz = true from hty)
        exact sim_sliceS hw hu hi' hs hns hp (opts_of hr) hcp hv
  | _ => exact absurd hok Bool.false_ne_true
theorem core_sliceA {n sz : Nat} {lo hi mx : Bool} (hok : opOk P op (.sliceA n sz lo hi mx) = true) (hw : WI g w m) (ha : Args g ps ((argsOf op (.sliceA n sz lo hi mx)).map ρ)) (hca : ∀ b, clA ps ((argsOf op (.sliceA n sz lo hi mx)).map ρ) b ≤ ca b) (he : core call (.sliceA n sz lo hi mx) ps m = some (r, m')) :
    Res P ρ ⟨dst, op, ty, pos, after, guard⟩ ca g w m r m' := by
  cases op with
  | slice t x l h k =>
    have hok' : (l.isSome == lo && h.isSome == hi && k.isSome == mx && arrOk P t n sz) = true := hok
    simp only [Bool.and_eq_true, beq_iff_eq] at hok'
    obtain ⟨⟨⟨rfl, rfl⟩, rfl⟩, hty⟩ := hok'
    obtain ⟨e, i, hu, hi', hs⟩ := arrOk_spec hty
    cases ha with
    | cons hp hr =>
      rename_i p ps
      simp only [core] at he
      split at he
      · simp only [Option.map_eq_some_iff, Prod.mk.injEq] at he
        obtain ⟨v, hv, rfl, rfl⟩ := he
        exact sim_sliceA_ptr hw hu hi' hs hp.vr (opts_of hr) hv
      · obtain ⟨hn, he⟩ := bif_some he
        simp only [Option.map_eq_some_iff, Prod.mk.injEq] at he
        obtain ⟨v, hv, rfl, rfl⟩ := he
        exact sim_sliceA_eptr hw hu hi' hs hp.vr (by simpa using hn) (opts_of hr) hv
      · cases he
  | _ => exact absurd hok Bool.false_ne_true
theorem core_fadd {off : Nat} (hok : opOk P op (.fadd off) = true) (hw : WI g w m) (ha : Args g ps ((argsOf op (.fadd off)).map ρ)) (hca : ∀ b, clA ps ((argsOf op (.fadd off)).map ρ) b ≤ ca b) (he : core call (.fadd off) ps m = some (r, m')) :
    Res P ρ ⟨dst, op, ty, pos, after, guard⟩ ca g w m r m' := by
  cases op with
  | fieldAddr t x j =>
    obtain ⟨fs, f, hu, hf, rfl, _, hn⟩ := fieldOk_spec (show fieldOk P t j off none = true from hok)
    obtain ⟨i, hi, hz⟩ := hn rfl
    obtain ⟨p, rfl, hp⟩ := Args.one (v := ρ x) ha
    cases p <;> simp only [core, Option.some.injEq, Prod.mk.injEq, reduceCtorEq] at he
    · obtain ⟨rfl, rfl⟩ := he
      exact sim_fadd_ptr hw hu hf hi hz hp.vr
    · obtain ⟨_, he⟩ := bif_some he
      simp only [Option.some.injEq, Prod.mk.injEq] at he
      obtain ⟨rfl, rfl⟩ := he
      exact sim_fadd_eptr hw hu hf hi hz hp.vr
  | _ => exact absurd hok Bool.false_ne_true
theorem core_idxS {sz : Nat} (hok : opOk P op (.idxS sz) = true) (hw : WI g w m) (ha : Args g ps ((argsOf op (.idxS sz)).map ρ)) (hca : ∀ b, clA ps ((argsOf op (.idxS sz)).map ρ) b ≤ ca b) (he : core call (.idxS sz) ps m = some (r, m')) :
    Res P ρ ⟨dst, op, ty, pos, after, guard⟩ ca g w m r m' := by
  cases op with
  | indexAddr t x j =>
    obtain ⟨e, i, hu, hi, hs, _⟩ := elemOk_spec (show elemOk P t sz = true from hok)
    obtain ⟨p, q, rfl, hp, hq⟩ := Args.two (v := ρ x) (u := ρ j) ha
    simp only [core, Option.bind_eq_some_iff] at he
    obtain ⟨k, hk, he⟩ := he
    split at he
    · simp only [Option.bind_eq_some_iff] at he
      obtain ⟨c, hc, he⟩ := he
      obtain ⟨hl, he⟩ := bif_some he
      simp only [Option.some.injEq, Prod.mk.injEq] at he
      obtain ⟨rfl, rfl⟩ := he
      exact sim_idxS_slice hw hu hi hs hp.vr hq.vr hk hc (Nat.eq_of_beq_eq_true hl)
    · obtain ⟨hl, he1⟩ := bif_some he
      clear he
      simp only [Bool.and_eq_true] at hl
      obtain rfl := Nat.eq_of_beq_eq_true hl.1
      simp only [Option.some.injEq, Prod.mk.injEq] at he1
      obtain ⟨rfl, rfl⟩ := he1
      exact sim_idxS_oslice hw hu hi hs hp.vr hq.vr hk (by simpa using hl.2)
    · cases he
  | _ => exact absurd hok Bool.false_ne_true
theorem core_idxA {n sz : Nat} (hok : opOk P op (.idxA n sz) = true) (hw : WI g w m) (ha : Args g ps ((argsOf op (.idxA n sz)).map ρ)) (hca : ∀ b, clA ps ((argsOf op (.idxA n sz)).map ρ) b ≤ ca b) (he : core call (.idxA n sz) ps m = some (r, m')) :
    Res P ρ ⟨dst, op, ty, pos, after, guard⟩ ca g w m r m' := by
  cases op with
  | indexAddr t x j =>
    obtain ⟨e, i, hu, hi, hs⟩ := arrOk_spec (show arrOk P t n sz = true from hok)
    obtain ⟨p, q, rfl, hp, hq⟩ := Args.two (v := ρ x) (u := ρ j) ha
    simp only [core, Option.bind_eq_some_iff] at he
    obtain ⟨k, hk, he⟩ := he
    obtain ⟨hlt, he⟩ := bif_some he
    have hlt' : k < n := by simpa using hlt
    split at he
    · simp only [Option.some.injEq, Prod.mk.injEq] at he
      obtain ⟨rfl, rfl⟩ := he
      exact sim_idxA_ptr hw hu hi hs hp.vr hq.vr hk hlt'
    · obtain ⟨_, he⟩ := bif_some he
      simp only [Option.some.injEq, Prod.mk.injEq] at he
      obtain ⟨rfl, rfl⟩ := he
      exact sim_idxA_eptr hw hu hi hs hp.vr hq.vr hk hlt'
    · cases he
  | _ => exact absurd hok Bool.false_ne_true
theorem core_fld {agg : Bool} {off n : Nat} (hok : opOk P op (.fld agg off n) = true) (hw : WI g w m) (ha : Args g ps ((argsOf op (.fld agg off n)).map ρ)) (hca : ∀ b, clA ps ((argsOf op (.fld agg off n)).map ρ) b ≤ ca b) (he : core call (.fld agg off n) ps m = some (r, m')) :
    Res P ρ ⟨dst, op, ty, pos, after, guard⟩ ca g w m r m' := by
  cases op with
  | field t x j =>
    obtain ⟨fs, f, hu, hf, rfl, hn, _⟩ := fieldOk_spec (show fieldOk P t j off (some (agg, n)) = true from hok)
    obtain ⟨d, i, hd, hi, hs, hag, h1⟩ := oneOk_spec (hn _ _ rfl)
    obtain ⟨p, rfl, hp⟩ := Args.one (v := ρ x) ha
    cases p <;> simp only [core, reduceCtorEq] at he
    obtain ⟨hb, he⟩ := bif_some he
    simp only [Option.map_eq_some_iff, Prod.mk.injEq] at he
    obtain ⟨v, hv, rfl, rfl⟩ := he
    exact sim_fld hw hu hf hi hd hs hag h1 hp.vr (by simpa using hb) hv
  | _ => exact absurd hok Bool.false_ne_true
theorem core_idxV {agg : Bool} {len n : Nat} (hok : opOk P op (.idxV agg len n) = true) (hw : WI g w m) (ha : Args g ps ((argsOf op (.idxV agg len n)).map ρ)) (hca : ∀ b, clA ps ((argsOf op (.idxV agg len n)).map ρ) b ≤ ca b) (he : core call (.idxV agg len n) ps m = some (r, m')) :
    Res P ρ ⟨dst, op, ty, pos, after, guard⟩ ca g w m r m' := by
  cases op with
  | index t x j =>
    have hok' : (match P.underlying t with | some (.array k e) => k.beq len && oneOk P e agg n | _ => false) = true := hok
    split at hok'
    · rename_i k e hu
      rw [Bool.and_eq_true] at hok'
      obtain rfl := Nat.eq_of_beq_eq_true hok'.1
      obtain ⟨d, i, hd, hi, hs, hag, h1⟩ := oneOk_spec hok'.2
      obtain ⟨p, q, rfl, hp, hq⟩ := Args.two (v := ρ x) (u := ρ j) ha
      cases p <;> simp only [core, reduceCtorEq, Option.bind_eq_some_iff] at he
      obtain ⟨i', hi', he⟩ := he
      obtain ⟨hb, he⟩ := bif_some he
      simp only [Bool.and_eq_true, Nat.ble_eq] at hb
      simp only [Option.map_eq_some_iff, Prod.mk.injEq] at he
      obtain ⟨v, hv, rfl, rfl⟩ := he
      exact sim_idxV hw hu hi hd hs hag h1 hp.vr hq.vr hi' (by simpa using hb.1) hb.2 hv
    · cases hok'
  | _ => exact absurd hok Bool.false_ne_true
theorem core_assert {t : Nat} {zero : PVal} (hok : opOk P op (.assert t zero) = true) (hw : WI g w m) (ha : Args g ps ((argsOf op (.assert t zero)).map ρ)) (hca : ∀ b, clA ps ((argsOf op (.assert t zero)).map ρ) b ≤ ca b) (he : core call (.assert t zero) ps m = some (r, m')) :
    Res P ρ ⟨dst, op, ty, pos, after, guard⟩ ca g w m r m' := by
  cases op with
  | typeAssert x xT t' ok =>
    have hok' : (ok && t'.beq t && notIfcT P t' && zeroVOk P t' zero) = true := hok
    simp only [Bool.and_eq_true] at hok'
    obtain ⟨⟨⟨rfl, h2⟩, h3⟩, h4⟩ := hok'
    obtain rfl : t' = t := Nat.eq_of_beq_eq_true h2
    obtain ⟨d, hu, hd⟩ := notIfcT_spec h3
    obtain ⟨i, v, hi, hz, hvz, _, _⟩ := zeroVOk_spec h4 g
    obtain ⟨p, rfl, hp⟩ := Args.one (v := ρ x) ha
    simp only [core] at he
    split at he
    · simp only [Option.some.injEq, Prod.mk.injEq] at he
      obtain ⟨rfl, rfl⟩ := he
      exact sim_assert_no hw hu hd hi hz hvz hp.vr
    · simp only [Option.some.injEq, Prod.mk.injEq] at he
      obtain ⟨rfl, rfl⟩ := he
      exact sim_assert hw hu hd hi hz hvz hp.vr
    · cases he
  | _ => exact absurd hok Bool.false_ne_true

theorem core_copy {sz : Nat} (hok : opOk P op (.copy sz) = true) (hw : WI g w m) (ha : Args g ps ((argsOf op (.copy sz)).map ρ)) (hca : ∀ b, clA ps ((argsOf op (.copy sz)).map ρ) b ≤ ca b) (he : core call (.copy sz) ps m = some (r, m')) :
    Res P ρ ⟨dst, op, ty, pos, after, guard⟩ ca g w m r m' := by
  cases op with
  | call c =>
    obtain ⟨callee, args, argTypes⟩ := c
    cases callee with
    | builtin bi =>
      cases bi with
      | copy =>
        have hok' : (match args.toList, argTypes.toList with | [_, _], [t, _] => elemOk P t sz | _, _ => false) = true := hok
        split at hok'
        · rename_i x y t u hargs htys
          obtain rfl := arr_of_toList hargs
          obtain rfl := arr_of_toList htys
          obtain ⟨e, i, hu, hi, hs, hne⟩ := elemOk_spec hok'
          obtain ⟨p, q, rfl, hp, hq⟩ := Args.two (v := ρ x) (u := ρ y) ha
          cases p <;> simp only [core, reduceCtorEq] at he
          rename_i sz' id off len cap
          cases hsz : sz.beq sz' with
          | false => rw [hsz] at he; simp at he
          | true =>
            rw [hsz] at he
            obtain rfl := Nat.eq_of_beq_eq_true hsz
            simp only [Bool.not_true, cond_false, Option.bind_eq_some_iff, Option.map_eq_some_iff, Prod.mk.injEq] at he
            obtain ⟨ys, hys, m1, hm1, rfl, rfl⟩ := he
            exact sim_copy hw hu hi hs hne hp.vr hq.vr hys hm1
        · cases hok'
      | _ => exact absurd hok Bool.false_ne_true
    | _ => exact absurd hok Bool.false_ne_true
  | _ => exact absurd hok Bool.false_ne_true
theorem core_clear {z : List PVal} (hok : opOk P op (.clear z) = true) (hw : WI g w m) (ha : Args g ps ((argsOf op (.clear z)).map ρ)) (hca : ∀ b, clA ps ((argsOf op (.clear z)).map ρ) b ≤ ca b) (he : core call (.clear z) ps m = some (r, m')) :
    Res P ρ ⟨dst, op, ty, pos, after, guard⟩ ca g w m r m' := by
  cases op with
  | call c =>
    obtain ⟨callee, args, argTypes⟩ := c
    cases callee with
    | builtin bi =>
      cases bi with
      | clear =>
        have hok' : (match args.toList, argTypes.toList with | [_], [t] => rowOk P t z | _, _ => false) = true := hok
        split at hok'
        · rename_i x t hargs htys
          obtain rfl := arr_of_toList hargs
          obtain rfl := arr_of_toList htys
          obtain ⟨e, i, v, hu, hi, hz, hs, hne, hzok, _⟩ := rowOk_spec hok'
          obtain ⟨p, rfl, hp⟩ := Args.one (v := ρ x) ha
          cases p with
          | oslice sz' id off len cap =>
            simp only [core] at he
            obtain ⟨hb, hh⟩ := bif_none he
            clear he
            simp only [Bool.not_eq_false', Bool.and_eq_true] at hb
            simp only [Option.map_eq_some_iff, Prod.mk.injEq] at hh
            obtain ⟨m1, hm1, rfl, rfl⟩ := hh
            obtain rfl := Nat.eq_of_beq_eq_true hb.1
            exact sim_clear hw hu hi hz hs.symm hne hb.2 hzok hp.vr hm1
          | slice xs c =>
            cases xs with
            | nil =>
              simp only [core, Option.some.injEq, Prod.mk.injEq] at he
              obtain ⟨rfl, rfl⟩ := he
              have hx0 : ∃ a cap, ρ x = .slice a 0 cap := by
                have h1 := hp.vr
                generalize ρ x = v at h1
                cases h1 with
                | slice0 _ => exact ⟨_, _, rfl⟩
                | slice sz vs hne => exact absurd rfl hne
              obtain ⟨a, cap, ex⟩ := hx0
              refine .pure hw (v := .tuple #[]) ?_ (.tuple rfl fun i c h => by simp at h) trivial fun b => Nat.zero_le _
              cases a <;> simp [execOp, resolve, invoke, builtin, Builtin.clear_, run_underlying' hu, ex]
            | cons x xs => simp [core] at he
          | _ => simp [core] at he
        · cases hok'
      | _ => exact absurd hok Bool.false_ne_true
    | _ => exact absurd hok Bool.false_ne_true
  | _ => exact absurd hok Bool.false_ne_true
theorem core_len {k : Nat} (hok : opOk P op (.len k) = true) (hw : WI g w m) (ha : Args g ps ((argsOf op (.len k)).map ρ)) (hca : ∀ b, clA ps ((argsOf op (.len k)).map ρ) b ≤ ca b) (he : core call (.len k) ps m = some (r, m')) :
    Res P ρ ⟨dst, op, ty, pos, after, guard⟩ ca g w m r m' := by
  cases op with
  | call c =>
    obtain ⟨callee, args, argTypes⟩ := c
    cases callee with
    | builtin bi =>
      cases bi with
      | len =>
        have hok' : (match args.toList, argTypes.toList with
          | [_], [t] => lenOk P t k
          | _, _ => false) = true := hok
        split at hok'
        · rename_i x t hargs htys
          obtain rfl := arr_of_toList hargs
          obtain rfl := arr_of_toList htys
          obtain ⟨p, rfl, hp⟩ := Args.one (v := ρ x) ha
          match k, hok', he with
          | 0, hok', he =>
            simp only [lenOk] at hok'
            split at hok'
            · rename_i e hu
              cases p <;> simp only [core, reduceCtorEq, Option.some.injEq, Prod.mk.injEq] at he
              · obtain ⟨rfl, rfl⟩ := he
                obtain ⟨a, cap, hv, _⟩ := hp.vr.inv_slice
                exact sim_len_slice hw hu hv
              · obtain ⟨rfl, rfl⟩ := he
                obtain ⟨a, cap, hv, _⟩ := hp.vr.inv_oslice
                exact sim_len_slice hw hu hv
            · cases hok'
          | 1, hok', he =>
            cases p <;> simp only [core, reduceCtorEq, Option.some.injEq, Prod.mk.injEq] at he
            obtain ⟨rfl, rfl⟩ := he
            exact sim_len_str hw (isStrT_spec hok') hp.vr
          | 2, hok', he =>
            obtain ⟨kt, et, hu⟩ := isMapT_spec hok'
            cases p <;> simp only [core, reduceCtorEq, Option.some.injEq, Prod.mk.injEq] at he
            · split at he
              · rename_i es hget
                simp only [Option.some.injEq, Prod.mk.injEq] at he
                obtain ⟨rfl, rfl⟩ := he
                exact sim_len_map hw hu hp.vr hget
              · cases he
            · obtain ⟨rfl, rfl⟩ := he
              exact sim_len_nilmap hw hu hp.vr
          | k + 3, hok', he => exact absurd hok' Bool.false_ne_true
        · cases hok'
      | _ => exact absurd hok Bool.false_ne_true
    | _ => exact absurd hok Bool.false_ne_true
  | _ => exact absurd hok Bool.false_ne_true
theorem core_lenA {n : Nat} (hok : opOk P op (.lenA n) = true) (hw : WI g w m) (ha : Args g ps ((argsOf op (.lenA n)).map ρ)) (hca : ∀ b, clA ps ((argsOf op (.lenA n)).map ρ) b ≤ ca b) (he : core call (.lenA n) ps m = some (r, m')) :
    Res P ρ ⟨dst, op, ty, pos, after, guard⟩ ca g w m r m' := by
  cases op with
  | call c =>
    obtain ⟨callee, args, argTypes⟩ := c
    cases callee with
    | builtin bi =>
      cases bi with
      | len =>
        have hok' : (match args.toList, argTypes.toList with
          | [_], [t] => (match P.underlying t with | some (.array k _) => k.beq n | _ => false)
          | _, _ => false) = true := hok
        split at hok'
        · rename_i x t hargs htys
          obtain rfl := arr_of_toList hargs
          obtain rfl := arr_of_toList htys
          split at hok'
          · rename_i k e hu
            obtain rfl := Nat.eq_of_beq_eq_true hok'
            simp only [core, Option.some.injEq, Prod.mk.injEq] at he
            obtain ⟨rfl, rfl⟩ := he
            exact sim_lenA hw hu
          · cases hok'
        · cases hok'
      | _ => exact absurd hok Bool.false_ne_true
    | _ => exact absurd hok Bool.false_ne_true
  | _ => exact absurd hok Bool.false_ne_true
theorem core_mm {isMax : Bool} (hok : opOk P op (.mm isMax) = true) (hw : WI g w m) (ha : Args g ps ((argsOf op (.mm isMax)).map ρ)) (hca : ∀ b, clA ps ((argsOf op (.mm isMax)).map ρ) b ≤ ca b) (he : core call (.mm isMax) ps m = some (r, m')) :
    Res P ρ ⟨dst, op, ty, pos, after, guard⟩ ca g w m r m' := by
  obtain ⟨k, n, xs, rfl, hmm, rfl⟩ : ∃ k n xs, ps = .int k n :: xs ∧ mmI isMax k n xs = some r ∧ m' = m := by
    cases ps with
    | nil => simp only [core, reduceCtorEq] at he
    | cons p ps =>
      cases p <;> simp only [core, reduceCtorEq, Option.map_eq_some_iff, Prod.mk.injEq] at he
      obtain ⟨v, hv, rfl, rfl⟩ := he
      exact ⟨_, _, _, rfl, hv, rfl⟩
  cases op with
  | call c =>
    obtain ⟨callee, args, argTypes⟩ := c
    cases callee with
    | builtin bi =>
      cases bi with
      | max =>
        obtain rfl : isMax = true := hok
        exact sim_mm (isMax := true) hw ha hmm
      | min =>
        obtain rfl : isMax = false := by simpa using (show (!isMax) = true from hok)
        exact sim_mm (isMax := false) hw ha hmm
      | _ => exact absurd hok Bool.false_ne_true
    | _ => exact absurd hok Bool.false_ne_true
  | _ => exact absurd hok Bool.false_ne_true
theorem core_append {sz : Nat} {obj : Bool} (hok : opOk P op (.append sz obj) = true) (hw : WI g w m) (ha : Args g ps ((argsOf op (.append sz obj)).map ρ)) (hca : ∀ b, clA ps ((argsOf op (.append sz obj)).map ρ) b ≤ ca b) (h1 : ∀ b, ca b + clM g w m b ≤ 1) (he : core call (.append sz obj) ps m = some (r, m')) :
    Res P ρ ⟨dst, op, ty, pos, after, guard⟩ ca g w m r m' := by
  cases op with
  | call c =>
    obtain ⟨callee, args, argTypes⟩ := c
    cases callee with
    | builtin bi =>
      cases bi with
      | append =>
        have hok' : (match args.toList, argTypes.toList with | [_, _], [t, u] => appOk P t sz && srcOk P u | _, _ => false) = true := hok
        split at hok'
        · rename_i x y t u hargs htys
          obtain rfl := arr_of_toList hargs
          obtain rfl := arr_of_toList htys
          rw [Bool.and_eq_true] at hok'
          obtain ⟨e, i, v, hu, hi, hz, hs, hne, hzs, hb⟩ := appOk_spec hok'.1
          obtain ⟨d, hd, hdd⟩ := srcOk_spec hok'.2
          obtain ⟨p, q, rfl, hp, hq⟩ := Args.two (v := ρ x) (u := ρ y) ha
          have hcp : ∀ b, clV p (ρ x) b ≤ ca b := fun b => by have := hca b; simp only [argsOf, List.map, clA] at this; omega
          have he0 := he
          simp only [core, Option.bind_eq_some_iff] at he
          obtain ⟨ys, hys, he⟩ := he
          cases hye : ys.isEmpty with
          | true =>
            rw [hye] at he
            have : ys = [] := by simpa using hye
            subst this
            simp only [cond_true] at he
            obtain ⟨hsl, he⟩ := bif_some he
            simp only [Option.some.injEq, Prod.mk.injEq] at he
            obtain ⟨rfl, rfl⟩ := he
            refine sim_append_none hw hu hd hdd hi hs hne hp ?_ hq.vr hys hcp
            cases p <;> simp [isSlice] at hsl ⊢
          | false =>
            have hyne : ys ≠ [] := by simpa using hye
            cases obj with
            | true => exact sim_append_obj hw hu hd hdd hi hs hne hz hzs hb hp hq.vr hys hyne hcp h1 he0
            | false =>
              rw [hye] at he
              simp only [cond_false] at he
              split at he
              · obtain ⟨hc, he⟩ := bif_some he
                simp only [Bool.and_eq_true, Bool.not_eq_true', decide_eq_false_iff_not, Nat.ble_eq] at hc
                simp only [Bool.false_and, cond_false, Option.some.injEq, Prod.mk.injEq] at he
                obtain ⟨rfl, rfl⟩ := he
                exact sim_append hw hu hd hdd hi hs hne hz hzs hb hp hq.vr hys hyne hc.1.1 hc.1.2 hc.2 hcp h1
              · simp at he
              · cases he
        · cases hok'
      | _ => exact absurd hok Bool.false_ne_true
    | _ => exact absurd hok Bool.false_ne_true
  | _ => exact absurd hok Bool.false_ne_true
end
end Go.Ev

namespace Go.Ev

section
variable {P : Program} {ρ : Operand → Value} {g : Gh} {w : World} {m : Mem} {dst : Option Tmp} {ty : TypeId} {pos : String} {after : Array Edge} {guard : Option (Nat × Bool)} {ca : Nat → Nat}
  {call : CallF} {op : Op} {ps : List PVal} {r : PVal} {m' : Mem}

/-- Does the operation call a function, or make an object of a variable? -/
def isCall : MOp → Bool
  | .call | .clone .. | .allocF _ | .init .. => true
  | _ => false

theorem keyTOk_spec {kt : TypeId} {kk : Nat} (h : keyTOk P kt kk = true) : KeyLaw P kt kk := by
  unfold keyTOk at h
  split at h
  · exact law_cell (by assumption) (fun k hk => by cases k <;> simp [keyKind, keyFits] at hk ⊢) (.inr (.inr ⟨_, rfl⟩))
  · exact law_cell (by assumption) (fun k hk => by cases k <;> simp [keyKind, keyFits] at hk ⊢) (.inr (.inl rfl))
  · exact law_cell (by assumption) (fun k hk => by cases k <;> simp [keyKind, keyFits] at hk ⊢) (.inl rfl)
  · rename_i len e k hu
    simp only [Bool.and_eq_true] at h
    obtain ⟨⟨h1, h2⟩, h3⟩ := h
    obtain rfl := Nat.eq_of_beq_eq_true h1
    split at h2
    · rename_i kk hue
      split at h2
      · exact law_ints hu hue (by assumption) (Nat.eq_of_beq_eq_true h2) h3
      · cases h2
    · cases h2
  · cases h

theorem mapOk_spec {t : TypeId} {kk : Nat} {zero : PVal} (h : mapOk P t kk zero = true) : ∃ kt et, P.underlying t = some (.map kt et) ∧ KeyLaw P kt kk ∧ zeroVOk P et zero = true := by
  unfold mapOk at h
  split at h
  · rename_i kt et hu
    rw [Bool.and_eq_true] at h
    exact ⟨kt, et, hu, keyTOk_spec h.1, h.2⟩
  · cases h

theorem mapKOk_spec {t : TypeId} {kk : Nat} (h : mapKOk P t kk = true) : ∃ kt et, P.underlying t = some (.map kt et) ∧ KeyLaw P kt kk := by
  unfold mapKOk at h
  split at h
  · rename_i kt et hu
    exact ⟨kt, et, hu, keyTOk_spec h⟩
  · cases h

theorem core_eqvA {neg : Bool} {n : Nat} (hok : opOk P op (.eqvA neg n) = true) (hw : WI g w m) (ha : Args g ps ((argsOf op (.eqvA neg n)).map ρ)) (he : core call (.eqvA neg n) ps m = some (r, m')) :
    Res P ρ ⟨dst, op, ty, pos, after, guard⟩ ca g w m r m' := by
  cases op with
  | binOp b' t x y u =>
    have hok' : (eqOk P 100 t n && aggTy P t && !P.eqGuardType P.depth t && decide (b' = bif neg then .neq else .eql)) = true := hok
    simp only [Bool.and_eq_true, Bool.not_eq_true'] at hok'
    obtain ⟨⟨⟨h1, h2⟩, h3⟩, h4⟩ := hok'
    obtain ⟨p, q, rfl, hp, hq⟩ := Args.two (v := ρ x) (u := ρ y) ha
    cases p <;> first | (simp [core] at he; done) | skip
    cases q <;> first | (simp [core] at he; done) | skip
    simp only [core] at he
    obtain ⟨hc, he⟩ := bif_some he
    simp only [Bool.and_eq_true, List.all_eq_true] at hc
    simp only [Option.map_eq_some_iff, Prod.mk.injEq] at he
    obtain ⟨v, hv, rfl, rfl⟩ := he
    exact sim_eqvA hw h1 h2 h3 (of_decide_eq_true h4) hp.vr hq.vr (Nat.eq_of_beq_eq_true hc.1) hc.2 hv
  | _ => exact absurd hok Bool.false_ne_true

theorem core_mapset {kk : Nat} (hok : opOk P op (.mapset kk) = true) (hw : WI g w m) (ha : Args g ps ((argsOf op (.mapset kk)).map ρ)) (he : core call (.mapset kk) ps m = some (r, m')) :
    Res P ρ ⟨dst, op, ty, pos, after, guard⟩ ca g w m r m' := by
  have main : ∀ (t : TypeId) (x y z : Operand), op = .mapUpdate t x y z ∨ op = .insert t x y z → mapKOk P t kk = true → Args g ps [ρ x, ρ y, ρ z] → Res P ρ ⟨dst, op, ty, pos, after, guard⟩ ca g w m r m' := by
    intro t x y z hop hmap ha
    obtain ⟨kt, et, hu, hl⟩ := mapKOk_spec hmap
    obtain ⟨p, q, s, rfl, hp, hq, hs⟩ := Args.three ha
    cases p <;> first | (simp [core] at he; done) | skip
    rename_i id
    simp only [core] at he
    cases hk : keyKind kk q with
    | false => rw [hk] at he; simp at he
    | true =>
      rw [hk] at he
      simp only [Bool.not_true, cond_false] at he
      split at he
      · simp only [Option.map_eq_some_iff, Prod.mk.injEq] at he
        obtain ⟨es', hes, rfl, rfl⟩ := he
        exact sim_mapset hop hw hu hl hk hp.vr hq.vr hs.vr (by assumption) hes
      · cases he
  cases op with
  | mapUpdate t x y z => exact main t x y z (.inl rfl) hok ha
  | insert t x y z => exact main t x y z (.inr rfl) hok ha
  | _ => exact absurd hok Bool.false_ne_true

theorem core_lookup {kk : Nat} {zero : PVal} {ok : Bool} (hok : opOk P op (.lookup kk zero ok) = true) (hw : WI g w m) (ha : Args g ps ((argsOf op (.lookup kk zero ok)).map ρ)) (he : core call (.lookup kk zero ok) ps m = some (r, m')) :
    Res P ρ ⟨dst, op, ty, pos, after, guard⟩ ca g w m r m' := by
  cases op with
  | lookup t x y ok' =>
    have hok' : (ok' == ok && mapOk P t kk zero) = true := hok
    rw [Bool.and_eq_true, beq_iff_eq] at hok'
    obtain ⟨rfl, hmap⟩ := hok'
    obtain ⟨kt, et, hu, hl, hzv⟩ := mapOk_spec hmap
    obtain ⟨i, v, hi, hz, hvz, hoz, hcz⟩ := zeroVOk_spec hzv g
    obtain ⟨p, q, rfl, hp, hq⟩ := Args.two (v := ρ x) (u := ρ y) ha
    simp only [core] at he
    cases hk : keyKind kk q with
    | false => rw [hk] at he; simp at he
    | true =>
      rw [hk] at he
      simp only [Bool.not_true, cond_false, Option.map_eq_some_iff, Prod.mk.injEq] at he
      obtain ⟨res, hres, rfl, rfl⟩ := he
      refine sim_lookupK hw hu hl hk hi hz hvz hoz hcz hp.vr hq.vr ?_
      split at hres
      · split at hres
        · exact .inr ⟨_, _, rfl, by assumption, hres⟩
        · cases hres
      · simp only [Option.some.injEq] at hres
        exact .inl ⟨rfl, hres.symm⟩
      · cases hres
  | _ => exact absurd hok Bool.false_ne_true

theorem sim_core {mo : MOp} (hok : opOk P op mo = true) (hnc : isCall mo = false) (hw : WI g w m) (ha : Args g ps ((argsOf op mo).map ρ)) (hca : ∀ b, clA ps ((argsOf op mo).map ρ) b ≤ ca b)
    (h1 : ∀ b, ca b + clM g w m b ≤ 1) (he : core call mo ps m = some (r, m')) : Res P ρ ⟨dst, op, ty, pos, after, guard⟩ ca g w m r m' := by
  cases mo with
  | move => exact core_move hok hw ha hca he
  | pick => exact core_pick hok hw ha hca he
  | box => exact core_box hok hw ha hca he
  | alloc => exact core_alloc hok hw ha hca he
  | build => exact core_build hok hw ha hca he
  | mkslice => exact core_mkslice hok hw ha hca he
  | load => exact core_load hok hw ha hca he
  | store => exact core_store hok hw ha hca he
  | nilchk => exact core_nilchk hok hw ha hca he
  | bin => exact core_bin hok hw ha hca he
  | binB => exact core_binB hok hw ha hca he
  | eqvP => exact core_eqvP hok hw ha hca he
  | eqvI => exact core_eqvI hok hw ha hca he
  | eqvA => exact core_eqvA hok hw ha he
  | mapset => exact core_mapset hok hw ha he
  | un => exact core_un hok hw ha hca he
  | conv => exact core_conv hok hw ha hca he
  | iface => exact core_iface hok hw ha hca he
  | mkfn => exact core_mkfn hok hw ha hca he
  | mkmap => exact core_mkmap hok hw ha hca he
  | mkrow => exact core_mkrow hok hw ha hca he
  | sliceS => exact core_sliceS hok hw ha hca he
  | sliceA => exact core_sliceA hok hw ha hca he
  | fadd => exact core_fadd hok hw ha hca he
  | idxS => exact core_idxS hok hw ha hca he
  | idxA => exact core_idxA hok hw ha hca he
  | fld => exact core_fld hok hw ha hca he
  | idxV => exact core_idxV hok hw ha hca he
  | lookup => exact core_lookup hok hw ha he
  | assert => exact core_assert hok hw ha hca he
  | extract => exact core_extract hok hw ha hca he
  | append => exact core_append hok hw ha hca h1 he
  | copy => exact core_copy hok hw ha hca he
  | clear => exact core_clear hok hw ha hca he
  | len => exact core_len hok hw ha hca he
  | lenA => exact core_lenA hok hw ha hca he
  | mm => exact core_mm hok hw ha hca he
  | call => cases hnc
  | clone => cases hnc
  | allocF => cases hnc
  | init => cases hnc
  | _ => cases op <;> exact absurd hok Bool.false_ne_true

end
end Go.Ev

/- Is a piece of the evaluator's code a copy of the model's? -/
namespace Go.Ev

def guardOk (ops : Array Oper) : Option (Nat × Bool) → Option (Nat × Bool) → Bool
  | none, none => true
  | some (j, b), some (t, c) => b == c && (match ops[j]? with | some q => q.dst == some t | none => false)
  | _, _ => false
/-- The first store to a variable tells where the variable is. -/
def dstOk (o : Oper) (mo : MOper) : Bool :=
  match mo.op with
  | .init .. => (match o.dst, mo.dst, mo.args, mo.guard with | none, some t, .mv s :: _, none => t.beq s | _, _, _, _ => false)
  | _ => o.dst == mo.dst
def dstLt (n : Nat) : Option Nat → Bool
  | some t => Nat.blt t n
  | none => true
def operOk (P : Program) (n : Nat) (ops : Array Oper) (o : Oper) (mo : MOper) : Bool :=
  dstOk o mo && dstLt n mo.dst && guardOk ops o.guard mo.guard && opdsOk (argsOf o.op mo.op) mo.args && opOk P o.op mo.op
def opersOk (P : Program) (n : Nat) (ops : Array Oper) : List Oper → List MOper → Bool
  | [], [] => true
  | o :: os, mo :: mos => operOk P n ops o mo && opersOk P n ops os mos
  | _, _ => false

def Opd.slots : Opd → List Nat
  | .mv t | .cp t => [t]
  | _ => []
def Opd.gone : Opd → List Nat
  | .mv t => [t]
  | _ => []
def MOper.reads (o : MOper) : List Nat := o.args.flatMap Opd.slots ++ (match o.guard with | some (t, _) => [t] | none => [])
def MOper.gone (o : MOper) : List Nat := o.args.flatMap Opd.gone
def hasNo (l : List Nat) (d : Option Nat) : Bool := match d with | some t => !l.contains t | none => true
def apartM (a b : MOper) : Bool :=
  hasNo b.reads a.dst && hasNo a.reads b.dst && hasNo b.dst.toList a.dst && a.gone.all (fun t => !b.reads.contains t) && b.gone.all (fun t => !a.reads.contains t)

/-- 0: no memory; 1: the memory is read; 2: it is changed. -/
def kindOf : MOp → Nat
  | .box .. | .alloc .. | .init .. | .store .. | .mkmap | .mapset _ | .call | .copy .. | .clear _ | .bad _ => 2
  | .load _ _ st => bif st then 2 else 1
  | .mkslice _ _ _ _ obj | .mkrow _ obj => bif obj then 2 else 0
  | .append _ obj | .clone _ _ obj => bif obj then 2 else 1
  | .lookup .. | .tostr | .len _ => 1
  | _ => 0

/-- What must come ahead of each operation, as the bits of a number. -/
def preds (acc : List Nat) : List Oper → List Nat
  | [] => acc
  | o :: os => preds (acc ++ [o.after.toList.foldl (fun s e => bif Region.binds .any e then s ||| 2 ^ e.on ||| acc.getD e.on 0 else s) 0]) os

/-- Edges point backwards. -/
def backOk : Nat → List Oper → Bool
  | _, [] => true
  | i, o :: os => o.after.all (fun e => !Region.binds .any e || Nat.blt e.on i) && backOk (i + 1) os

def kindsOk (conf : List (Nat × Nat)) (i j : Nat) (a b : MOper) : Bool :=
  match kindOf a.op, kindOf b.op with
  | 2, 2 => false
  | 1, 2 => conf.contains (i, j)
  | 2, 1 => conf.contains (j, i)
  | _, _ => true
def pairOk (pre : List Nat) (conf : List (Nat × Nat)) (i j : Nat) (a b : MOper) : Bool :=
  (pre.getD j 0).testBit i || (apartM a b && kindsOk conf i j a b)
def pairsWith (pre : List Nat) (conf : List (Nat × Nat)) (i : Nat) (a : MOper) : Nat → List MOper → Bool
  | _, [] => true
  | j, b :: bs => pairOk pre conf i j a b && pairsWith pre conf i a (j + 1) bs
def pairsOk (pre : List Nat) (conf : List (Nat × Nat)) : Nat → List MOper → Bool
  | _, [] => true
  | i, a :: as => pairsWith pre conf i a (i + 1) as && pairsOk pre conf (i + 1) as

def regionOk (P : Program) (n : Nat) (ops : Array Oper) (draw : Bool) (mos : List MOper) (conf : List (Nat × Nat)) : Bool :=
  opersOk P n ops ops.toList mos && (bif draw then backOk 0 ops.toList && pairsOk (preds [] ops.toList) conf 0 mos else conf.isEmpty)

def codeOk (P : Program) (n : Nat) : Code → MCode → Bool
  | .skip, .skip => true
  | .region _ ops draw, .region mos conf => regionOk P n ops draw mos conf
  | .seq a b, .seq x y => codeOk P n a x && codeOk P n b y
  | .cond c a b, .cond d x y => opdOk c d && codeOk P n a x && codeOk P n b y
  | .block i a, .block j x => i.beq j && codeOk P n a x
  | .loop a, .loop _ x => codeOk P n a x
  | .exit i, .exit j => i.beq j
  | .ret, .ret => true
  | _, .bad _ => true
  | _, _ => false

def resOk (P : Program) : List ResultVar → List MRes → Bool
  | [], [] => true
  | .tmp t :: rs, .tmp s :: ms => t.beq s && resOk P rs ms
  | .cell t ty :: rs, .cell s agg n :: ms => t.beq s && oneOk P ty agg n && resOk P rs ms
  | _, _ => false

def fnOk (P : Program) (f : Nat) (fn : MFunc) : Bool :=
  match P.funcs[f]? with
  | some x => (match x.body with | some c => Nat.ble (x.params.size + x.nfree) x.ntmps && codeOk P x.ntmps c fn.body && resOk P x.results.toList fn.results | none => false)
  | none => false

end Go.Ev

/- Slots as a function, and what holds in a frame. -/
namespace Go.Ev

abbrev FEnv := Nat → Option PVal
def upd (f : FEnv) (t : Nat) (p : Option PVal) : FEnv := fun s => if s = t then p else f s
theorem upd_same (f : FEnv) (t : Nat) (p : Option PVal) : upd f t p t = p := by simp [upd]
theorem upd_ne (f : FEnv) {t s : Nat} (p : Option PVal) (h : s ≠ t) : upd f t p s = f s := by simp [upd, h]
theorem upd_comm (f : FEnv) {t s : Nat} (p q : Option PVal) (h : s ≠ t) : upd (upd f t p) s q = upd (upd f s q) t p := by
  funext x; unfold upd
  by_cases h1 : x = s
  · subst h1; simp [h]
  · simp [h1]

def clS (tmps : Array Value) (f : FEnv) (t b : Nat) : Nat := match f t with | some p => clV p (tmps.getD t undef) b | none => 0
def clF (tmps : Array Value) (f : FEnv) : Nat → Nat → Nat
  | 0, _ => 0
  | n + 1, b => clS tmps f n b + clF tmps f n b

theorem clF_congr {tmps tmps' : Array Value} {f f' : FEnv} {n b : Nat} (h : ∀ t, t < n → clS tmps' f' t b = clS tmps f t b) : clF tmps' f' n b = clF tmps f n b := by
  induction n with
  | zero => rfl
  | succ n ih => simp only [clF]; rw [h n (by omega), ih fun t ht => h t (by omega)]
theorem clF_le {tmps tmps' : Array Value} {f f' : FEnv} {n b : Nat} (h : ∀ t, t < n → clS tmps' f' t b ≤ clS tmps f t b) : clF tmps' f' n b ≤ clF tmps f n b := by
  induction n with
  | zero => exact Nat.le_refl _
  | succ n ih => simp only [clF]; have := h n (by omega); have := ih fun t ht => h t (by omega); omega
/-- All but one slot alike. -/
theorem clF_one {tmps tmps' : Array Value} {f f' : FEnv} {n b t : Nat} (ht : t < n) (h : ∀ s, s < n → s ≠ t → clS tmps' f' s b = clS tmps f s b) : clF tmps' f' n b + clS tmps f t b = clF tmps f n b + clS tmps' f' t b := by
  induction n with
  | zero => omega
  | succ n ih =>
    simp only [clF]
    by_cases hn : n = t
    · subst hn
      rw [clF_congr (tmps := tmps) (f := f) fun s hs => h s (by omega) (by omega)]; omega
    · rw [h n (by omega) hn]
      have := ih (by omega) fun s hs hne => h s (by omega) hne
      omega
theorem clS_le {tmps : Array Value} {f : FEnv} {n b t : Nat} (ht : t < n) : clS tmps f t b ≤ clF tmps f n b := by
  induction n with
  | zero => omega
  | succ n ih =>
    simp only [clF]
    by_cases hn : n = t
    · subst hn; omega
    · have := ih (by omega); omega

theorem clF_take {tmps : Array Value} {f : FEnv} {n b t : Nat} {p : PVal} (ht : t < n) (h : f t = some p) : clV p (tmps.getD t undef) b + clF tmps (upd f t none) n b = clF tmps f n b := by
  have := clF_one (tmps := tmps) (tmps' := tmps) (f := f) (f' := upd f t none) (b := b) ht fun s _ hs => by simp [clS, upd, hs]
  simp only [clS, h, upd_same] at this
  omega

structure EnvF (g : Gh) (f : FEnv) (tmps : Array Value) : Prop where
  get : ∀ t p, f t = some p → ∃ v, tmps[t]? = some v ∧ VR g p v ∧ OwnOk g p v

theorem EnvF.lt {g : Gh} {f : FEnv} {tmps : Array Value} (h : EnvF g f tmps) {t : Nat} {p : PVal} (e : f t = some p) : t < tmps.size := by
  obtain ⟨v, hv, _⟩ := h.get t p e
  exact (Array.getElem?_eq_some_iff.1 hv).1

section
variable (globs : Nat → Option (List PVal))
def fopd : Opd → FEnv → Option (PVal × FEnv)
  | .mv t, f => (f t).bind fun v => bif v.isFresh then none else some (v, upd f t none)
  | .cp t, f => (f t).bind fun v => bif v.isFresh then none else some (v.nz, f)
  | .val v, f => some (v, f)
  | .glob g, f => (globs g).map fun cs => (.eptr cs, f)
def fopds : List Opd → FEnv → Option (List PVal × FEnv)
  | [], f => some ([], f)
  | x :: xs, f => (fopd globs x f).bind fun r => (fopds xs r.2).map fun s => (r.1 :: s.1, s.2)
def fwanted (g : Option (Nat × Bool)) (f : FEnv) : Option Bool :=
  match g with
  | none => some true
  | some (t, b) => match f t with
    | some (.bool c) => some (c == b)
    | some _ => some false
    | none => none
def fput (f : FEnv) (d : Option Nat) (v : PVal) : FEnv := match d with | some t => upd f t (some v) | none => f
abbrev FSt := FEnv × Mem
def fInit (call : CallF) (n : Nat) (keep : Bool) (args : List Opd) (dst : Option Nat) (s : FSt) : Option (List PVal × FSt) :=
  match args with
  | [.mv t, x] =>
    match s.1 t with
    | some (.fresh z) => (fopd globs x (upd s.1 t none)).bind fun r => (core call (.init n keep) [.fresh z, r.1] s.2).map fun q => ([.fresh z, r.1], (fput r.2 dst q.1, q.2))
    | _ => none
  | _ => none
def fOper (call : CallF) (o : MOper) (s : FSt) : Option (List PVal × FSt) :=
  (fwanted o.guard s.1).bind fun w =>
    bif w then
      match o.op with
      | .init n keep => fInit globs call n keep o.args o.dst s
      | .allocF z => match o.args with
        | [] => some ([], (fput s.1 o.dst (.fresh z), s.2))
        | _ => none
      | op => (fopds globs o.args s.1).bind fun r => (core call op r.1 s.2).bind fun q => bif q.1.isFresh then none else some (r.1, (fput r.2 o.dst q.1, q.2))
    else some ([], (fput s.1 o.dst (.tuple []), s.2))
end

def Env.ok (e : Env) : Prop := (e.map (·.1)).Nodup

theorem env_get_none {e : Env} {t : Nat} (h : t ∉ e.map (·.1)) : e.get t = none := by
  induction e with
  | nil => rfl
  | cons x xs ih =>
    obtain ⟨s, v⟩ := x
    simp only [List.map_cons, List.mem_cons, not_or] at h
    simp only [Env.get]
    have : s.beq t = false := by
      cases hb : s.beq t with
      | false => rfl
      | true => exact absurd (Nat.eq_of_beq_eq_true hb).symm h.1
    rw [this]; exact ih h.2

theorem env_del_keys (e : Env) (t : Nat) : ∀ s, s ∈ (e.del t).map (·.1) → s ∈ e.map (·.1) := fun s h => by
  exact (List.Sublist.map _ (env_del_sub e t)).subset h

theorem env_get_del {e : Env} (hn : e.ok) (t : Nat) : (e.del t).get = upd e.get t none := by
  funext s
  induction e with
  | nil => simp [Env.del, Env.get, upd]
  | cons x xs ih =>
    obtain ⟨r, v⟩ := x
    have hn' : r ∉ xs.map (·.1) ∧ Env.ok xs := by simpa [Env.ok] using hn
    simp only [Env.del]
    cases hb : r.beq t with
    | true =>
      obtain rfl : r = t := Nat.eq_of_beq_eq_true hb
      simp only [cond_true]
      by_cases hs : s = r
      · subst hs; rw [upd_same, env_get_none hn'.1]
      · rw [upd_ne _ _ hs]
        simp only [Env.get]
        have : r.beq s = false := by
          cases hb : r.beq s with
          | false => rfl
          | true => exact absurd (Nat.eq_of_beq_eq_true hb).symm hs
        rw [this]; rfl
    | false =>
      simp only [cond_false, Env.get]
      have hrt : r ≠ t := fun e => by subst e; simp at hb
      cases hb2 : r.beq s with
      | true =>
        obtain rfl : r = s := Nat.eq_of_beq_eq_true hb2
        rw [upd_ne _ _ hrt]; simp
      | false =>
        simp only [cond_false]
        rw [ih hn'.2]
        unfold upd
        by_cases hs : s = t
        · simp [hs]
        · simp [hs, hb2]

theorem env_del_ok {e : Env} (hn : e.ok) (t : Nat) : (e.del t).ok := hn.sublist ((env_del_sub e t).map _)

theorem env_get_put {e : Env} (hn : e.ok) (t : Nat) (v : PVal) : (e.put t v).get = upd e.get t (some v) := by
  funext s
  simp only [Env.put, Env.get]
  cases hb : t.beq s with
  | true =>
    obtain rfl : t = s := Nat.eq_of_beq_eq_true hb
    rw [upd_same]; rfl
  | false =>
    have hne : s ≠ t := fun e => by subst e; simp at hb
    rw [upd_ne _ _ hne, cond_false, env_get_del hn, upd_ne _ _ hne]

theorem env_put_ok {e : Env} (hn : e.ok) (t : Nat) (v : PVal) : (e.put t v).ok := by
  unfold Env.ok Env.put
  simp only [List.map_cons, List.nodup_cons]
  refine ⟨fun h => ?_, env_del_ok hn t⟩
  obtain ⟨x, hx, he⟩ := List.mem_map.1 h
  obtain ⟨s, p⟩ := x
  simp at he; subst he
  exact env_del_not hn p hx

section
variable {globs : Nat → Option (List PVal)} {call : CallF}

theorem opd_f {x : Opd} {e e' : Env} {p : PVal} (hn : e.ok) (h : opd globs x e = some (p, e')) : fopd globs x e.get = some (p, e'.get) ∧ e'.ok := by
  cases x with
  | mv t =>
    simp only [opd, Option.bind_eq_some_iff] at h
    obtain ⟨v, hv, h⟩ := h
    obtain ⟨hf, h⟩ := bif_none h
    simp only [Option.some.injEq, Prod.mk.injEq] at h
    obtain ⟨rfl, rfl⟩ := h
    exact ⟨by simp [fopd, hv, hf, env_get_del hn], env_del_ok hn t⟩
  | cp t =>
    simp only [opd, Option.bind_eq_some_iff] at h
    obtain ⟨v, hv, h⟩ := h
    obtain ⟨hf, h⟩ := bif_none h
    simp only [Option.some.injEq, Prod.mk.injEq] at h
    obtain ⟨rfl, rfl⟩ := h
    exact ⟨by simp [fopd, hv, hf], hn⟩
  | val v =>
    simp only [opd, Option.some.injEq, Prod.mk.injEq] at h
    obtain ⟨rfl, rfl⟩ := h
    exact ⟨rfl, hn⟩
  | glob k =>
    simp only [opd, Option.map_eq_some_iff, Prod.mk.injEq] at h
    obtain ⟨cs, hcs, rfl, rfl⟩ := h
    exact ⟨by simp [fopd, hcs], hn⟩

theorem opds_f : ∀ {xs : List Opd} {e e' : Env} {ps : List PVal}, e.ok → opds globs xs e = some (ps, e') → fopds globs xs e.get = some (ps, e'.get) ∧ e'.ok
  | [], e, e', ps, hn, h => by
    simp only [opds, Option.some.injEq, Prod.mk.injEq] at h
    obtain ⟨rfl, rfl⟩ := h
    exact ⟨rfl, hn⟩
  | x :: xs, e, e', ps, hn, h => by
    simp only [opds, Option.bind_eq_some_iff, Option.map_eq_some_iff, Prod.mk.injEq] at h
    obtain ⟨⟨p, e1⟩, h1, ⟨qs, e2⟩, h2, rfl, rfl⟩ := h
    obtain ⟨a1, n1⟩ := opd_f hn h1
    obtain ⟨a2, n2⟩ := opds_f n1 h2
    exact ⟨by simp [fopds, a1, a2], n2⟩

theorem putO_f {e : Env} (hn : e.ok) (d : Option Nat) (v : PVal) : (putO e d v).get = fput e.get d v ∧ (putO e d v).ok := by
  cases d with
  | none => exact ⟨rfl, hn⟩
  | some t => exact ⟨env_get_put hn t v, env_put_ok hn t v⟩

theorem evOper_f {o : MOper} {s s' : MSt} {ps : List PVal} (hn : s.env.ok) (h : evOper globs call o s = some (ps, s')) : fOper globs call o (s.env.get, s.mem) = some (ps, (s'.env.get, s'.mem)) ∧ s'.env.ok := by
  unfold evOper at h
  simp only [Option.bind_eq_some_iff] at h
  obtain ⟨w, hw, h⟩ := h
  have hw' : fwanted o.guard s.env.get = some w := hw
  unfold fOper
  simp only [hw', Option.bind_some]
  cases w with
  | true =>
    simp only [cond_true] at h ⊢
    split at h
    · rename_i n keep hop
      unfold evInit at h
      unfold fInit
      split at h
      · rename_i t x hargs
        split at h
        · rename_i z hz
          simp only [Option.bind_eq_some_iff, Option.map_eq_some_iff, Prod.mk.injEq] at h
          obtain ⟨⟨p, e1⟩, h1, ⟨r, m1⟩, h2, rfl, rfl⟩ := h
          obtain ⟨a1, n1⟩ := opd_f (env_del_ok hn t) h1
          rw [env_get_del hn] at a1
          obtain ⟨a2, n2⟩ := putO_f n1 o.dst r
          refine ⟨?_, n2⟩
          simp only at h2
          simp only [hop, hargs, hz, a1, Option.bind_some, h2, Option.map_some, a2]
        · cases h
      · cases h
    · rename_i z hop
      split at h
      · rename_i hargs
        simp only [Option.some.injEq, Prod.mk.injEq] at h
        obtain ⟨rfl, rfl⟩ := h
        obtain ⟨a2, n2⟩ := putO_f hn o.dst (.fresh z)
        exact ⟨by simp only [hop, hargs, a2], n2⟩
      · cases h
    · rename_i op hop hop2
      simp only [Option.bind_eq_some_iff] at h
      obtain ⟨⟨qs, e1⟩, h1, ⟨r, m1⟩, h2, h⟩ := h
      obtain ⟨hf, h⟩ := bif_none h
      simp only [Option.some.injEq, Prod.mk.injEq] at h
      obtain ⟨rfl, rfl⟩ := h
      obtain ⟨a1, n1⟩ := opds_f hn h1
      obtain ⟨a2, n2⟩ := putO_f n1 o.dst r
      refine ⟨?_, n2⟩
      split
      · rename_i n keep hop'
        exact absurd hop' (hop _ _)
      · rename_i z hop'
        exact absurd hop' (hop2 _)
      · simp only at hf h2
        simp only [a1, Option.bind_some, h2, hf, cond_false, a2]
  | false =>
    simp only [cond_false, Option.some.injEq, Prod.mk.injEq] at h ⊢
    obtain ⟨rfl, rfl⟩ := h
    obtain ⟨a2, n2⟩ := putO_f hn o.dst (.tuple [])
    exact ⟨⟨rfl, by rw [a2]; exact ⟨rfl, rfl⟩⟩, n2⟩

end
end Go.Ev

/- What holds in a frame, and behind each operation. -/
namespace Go.Ev

/-- What has come of the state that the frame began in. -/
structure Pre (C0 : Nat → Nat) (g0 : Gh) (w0 : World) (K : Nat → Nat) (g : Gh) (w : World) : Prop where
  size : w0.heap.size ≤ w.heap.size
  φ : ∃ ext, g.φ = g0.φ ++ ext ∧ NewPhi g0 w0 ext
  lgle : ∀ b row, g0.lg b = some row → ∃ row', g.lg b = some row' ∧ row.cells <+: row'.cells
  bs : ∀ (id b : Nat), g0.φ[id]? = some b → g.bs b = g0.bs b
  claims : ∀ b, b < w0.heap.size → K b ≤ C0 b
  claims' : ∀ b, w0.heap.size ≤ b → K b ≤ 1
  keepLg : ∀ b row, g0.lg b = some row → C0 b = 0 → g.lg b = some row
  keepBlk : ∀ b, b < w0.heap.size → C0 b = 0 → (∀ id : Nat, g0.φ[id]? ≠ some b) → w.heap[b]? = w0.heap[b]?
  fz : SameFz w0 w
  keepNone : ∀ b, b < w0.heap.size → g0.lg b = none → (∀ id : Nat, g0.φ[id]? ≠ some b) → g.lg b = none
  os : w.os = w0.os ∧ w.output = w0.output ∧ w.tape = w0.tape
  R : g.R = g0.R

section
variable {C0 : Nat → Nat} {g0 : Gh} {w0 : World} {g : Gh} {w : World} {m : Mem}

theorem Pre.weaken {K K' : Nat → Nat} (h : Pre C0 g0 w0 K g w) (hk : ∀ b, K' b ≤ K b) : Pre C0 g0 w0 K' g w :=
  { h with claims := fun b hb => Nat.le_trans (hk b) (h.claims b hb), claims' := fun b hb => Nat.le_trans (hk b) (h.claims' b hb) }

theorem Pre.total {K : Nat → Nat} (h : Pre C0 g0 w0 K g w) (h1 : ∀ b, C0 b ≤ 1) (b : Nat) : K b ≤ 1 := by
  by_cases hb : b < w0.heap.size
  · exact Nat.le_trans (h.claims b hb) (h1 b)
  · exact h.claims' b (by omega)

theorem Pre.phi_new {K : Nat → Nat} (h : Pre C0 g0 w0 K g w) {b id : Nat} (hb : b < w0.heap.size) (hno : ∀ id : Nat, g0.φ[id]? ≠ some b) : g.φ[id]? ≠ some b := by
  intro e
  obtain ⟨ext, he, hn⟩ := h.φ
  rw [he] at e
  exact hn.not hb hno e

/-- One step more. K is what the other slots claim. -/
theorem Pre.step {K ca : Nat → Nat} {r : PVal} {m' : Mem} {g' : Gh} {w' : World} {v : Value} (h : Pre C0 g0 w0 (fun b => K b + ca b + clM g w m b) g w) (hlg0 : ∀ b row, g0.lg b = some row → b < w0.heap.size) (hK : ∀ b, w.heap.size ≤ b → K b = 0)
    (hs : Step ca g w m r m' g' w' v) : Pre C0 g0 w0 (fun b => K b + clV r v b + clM g' w' m' b) g' w' where
  size := Nat.le_trans h.size hs.size
  φ := by
    obtain ⟨e1, h1, n1⟩ := h.φ
    obtain ⟨e2, h2, n2⟩ := hs.φ
    exact ⟨e1 ++ e2, by rw [h2, h1, List.append_assoc], n1.append n2 h1 h.size⟩
  bs := fun id b e => by
    obtain ⟨ext, he, _⟩ := h.φ
    exact (hs.bs id b (by rw [he]; exact pre_get (List.prefix_append _ _) e)).trans (h.bs id b e)
  lgle := fun b row e => by
    obtain ⟨r1, e1, p1⟩ := h.lgle b row e
    obtain ⟨r2, e2, p2⟩ := hs.lgle b r1 e1
    exact ⟨r2, e2, p1.trans p2⟩
  claims := fun b hb => by
    have h1 := h.claims b hb
    have h2 := hs.claims b (by have := h.size; omega)
    omega
  claims' := fun b hb => by
    have h1 := h.claims' b hb
    by_cases hbw : b < w.heap.size
    · have h2 := hs.claims b hbw; omega
    · have h2 := hs.claims' b (by omega); have := hK b (by omega); omega
  keepLg := fun b row e h0 => by
    have e1 := h.keepLg b row e h0
    refine hs.keepLg b row e1 ?_
    have := h.claims b (hlg0 b row e)
    omega
  keepBlk := fun b hb h0 hno => by
    have h1 := h.keepBlk b hb h0 hno
    rw [← h1]
    refine hs.keepBlk b (by have := h.size; omega) ?_ fun id => h.phi_new hb hno
    have := h.claims b hb
    omega
  fz := h.fz.trans hs.fresh h.size
  R := hs.R.trans h.R
  keepNone := fun b hb hn hno => hs.keepNone b (by have := h.size; omega) (h.keepNone b hb hn hno) fun id => h.phi_new hb hno
  os := ⟨hs.os.1.trans h.os.1, hs.os.2.1.trans h.os.2.1, hs.os.2.2.trans h.os.2.2⟩

end

/-- The frame's state. -/
structure Inv (C0 : Nat → Nat) (g0 : Gh) (w0 : World) (f : FEnv) (m : Mem) (g : Gh) (w : World) (tmps : Array Value) : Prop where
  wi : WI g w m
  env : EnvF g f tmps
  pre : Pre C0 g0 w0 (fun b => clF tmps f tmps.size b + clM g w m b) g w
  c1 : ∀ b, C0 b ≤ 1
  lg0 : ∀ b row, g0.lg b = some row → b < w0.heap.size
  fresh : ∀ t z, f t = some (.fresh z) → ∃ b c el, tmps[t]? = some (.pointer (some ⟨b, 0, none⟩)) ∧ w0.heap.size ≤ b ∧ w.heap[b]? = some (.cells c el (0, 0)) ∧ c.size = z.length ∧ g.lg b = none ∧ ∀ id : Nat, g.φ[id]? ≠ some b
  apart : ∀ t t' z z', t ≠ t' → f t = some (.fresh z) → f t' = some (.fresh z') → tmps[t]? ≠ tmps[t']?

end Go.Ev

/- An operation in a frame. -/
namespace Go.Ev

section
variable {globs : Nat → Option (List PVal)} {C0 : Nat → Nat} {g0 : Gh} {w0 : World} {f f1 : FEnv} {m : Mem} {g : Gh} {w : World} {tmps : Array Value}

theorem Pre.le {K : Nat → Nat} (h : Pre C0 g0 w0 K g w) : g0.Le g := by
  obtain ⟨ext, he, _⟩ := h.φ
  exact ⟨fun id b e => by rw [he]; exact pre_get (List.prefix_append _ _) e, h.lgle, h.bs, h.R⟩
theorem GlobOk.mono {g g' : Gh} (h : GlobOk globs g) (hl : g.Le g') : GlobOk globs g' := fun i cs e => (h i cs e).mono hl

/-- The frame's state while an operation holds what it was given. -/
structure InvK (C0 : Nat → Nat) (g0 : Gh) (w0 : World) (f : FEnv) (m : Mem) (g : Gh) (w : World) (tmps : Array Value) (cA : Nat → Nat) : Prop where
  wi : WI g w m
  env : EnvF g f tmps
  pre : Pre C0 g0 w0 (fun b => clF tmps f tmps.size b + cA b + clM g w m b) g w
  c1 : ∀ b, C0 b ≤ 1
  lg0 : ∀ b row, g0.lg b = some row → b < w0.heap.size
  fresh : ∀ t z, f t = some (.fresh z) → ∃ b c el, tmps[t]? = some (.pointer (some ⟨b, 0, none⟩)) ∧ w0.heap.size ≤ b ∧ w.heap[b]? = some (.cells c el (0, 0)) ∧ c.size = z.length ∧ g.lg b = none ∧ ∀ id : Nat, g.φ[id]? ≠ some b
  apart : ∀ t t' z z', t ≠ t' → f t = some (.fresh z) → f t' = some (.fresh z') → tmps[t]? ≠ tmps[t']?

theorem Inv.toK (h : Inv C0 g0 w0 f m g w tmps) : InvK C0 g0 w0 f m g w tmps (fun _ => 0) :=
  ⟨h.wi, h.env, h.pre, h.c1, h.lg0, h.fresh, h.apart⟩
theorem InvK.toInv {cA : Nat → Nat} (h : InvK C0 g0 w0 f m g w tmps cA) : Inv C0 g0 w0 f m g w tmps :=
  ⟨h.wi, h.env, h.pre.weaken fun b => by omega, h.c1, h.lg0, h.fresh, h.apart⟩

/-- Some slots are given up. -/
theorem InvK.sub {cA cA' : Nat → Nat} (h : InvK C0 g0 w0 f m g w tmps cA) (hs : ∀ t p, f1 t = some p → f t = some p) (hc : ∀ b, clF tmps f1 tmps.size b + cA' b ≤ clF tmps f tmps.size b + cA b) : InvK C0 g0 w0 f1 m g w tmps cA' :=
  ⟨h.wi, ⟨fun t p e => h.env.get t p (hs t p e)⟩, h.pre.weaken fun b => by have := hc b; omega, h.c1, h.lg0, fun t z e => h.fresh t z (hs _ _ e), fun t t' z z' hne e e' => h.apart t t' z z' hne (hs _ _ e) (hs _ _ e')⟩

theorem fopd_ok (hg : GlobOk globs g) {a : Act} {x : Operand} {y : Opd} {p : PVal} (he : EnvF g f a.tmps)
    (hx : opdOk x y = true) (h : fopd globs y f = some (p, f1)) : Arg g p (a.eval x) ∧ (∀ t q, f1 t = some q → f t = some q) ∧ ∀ k, clV p (a.eval x) k + clF a.tmps f1 a.tmps.size k ≤ clF a.tmps f a.tmps.size k := by
  unfold opdOk at hx
  split at hx
  · rename_i t s
    obtain rfl := Nat.eq_of_beq_eq_true hx
    simp only [fopd, Option.bind_eq_some_iff] at h
    obtain ⟨v, hv, h⟩ := h
    obtain ⟨_, h⟩ := bif_none h
    simp only [Option.some.injEq, Prod.mk.injEq] at h
    obtain ⟨rfl, rfl⟩ := h
    obtain ⟨u, hu, hvr, hok⟩ := he.get _ _ hv
    have heq : a.eval (.tmp t) = u := by simp [Act.eval, hu]
    refine ⟨⟨heq ▸ hvr, heq ▸ hok⟩, fun s q e => ?_, fun k => ?_⟩
    · by_cases hs : s = t
      · subst hs; rw [upd_same] at e; cases e
      · rwa [upd_ne _ _ hs] at e
    · have := clF_take (tmps := a.tmps) (n := a.tmps.size) (b := k) (he.lt hv) hv
      rw [getD_of hu] at this
      rw [heq]; omega
  · rename_i t s
    obtain rfl := Nat.eq_of_beq_eq_true hx
    simp only [fopd, Option.bind_eq_some_iff] at h
    obtain ⟨v, hv, h⟩ := h
    obtain ⟨_, h⟩ := bif_none h
    simp only [Option.some.injEq, Prod.mk.injEq] at h
    obtain ⟨rfl, rfl⟩ := h
    obtain ⟨u, hu, hvr, hok⟩ := he.get _ _ hv
    have heq : a.eval (.tmp t) = u := by simp [Act.eval, hu]
    refine ⟨⟨heq ▸ hvr.nz, OwnOk_nz _ _ _⟩, fun _ _ e => e, fun k => ?_⟩
    rw [clV_nz]; omega
  · simp only [fopd, Option.some.injEq, Prod.mk.injEq] at h
    obtain ⟨rfl, rfl⟩ := h
    obtain ⟨h1, h2, h3, _⟩ := valOk_vr hx g
    exact ⟨⟨h1, h2⟩, fun _ _ e => e, fun k => by simp only [Act.eval]; rw [h3]; omega⟩
  · rename_i f0 g' c
    simp only [fopd, Option.some.injEq, Prod.mk.injEq] at h
    obtain ⟨rfl, rfl⟩ := h
    simp at hx
    obtain ⟨rfl, rfl⟩ := hx
    exact ⟨⟨.func rfl (fun i c h => by simp at h) (fun i c h => by simp at h), trivial⟩, fun _ _ e => e, fun k => by simp [clV, clV0, claim0]⟩
  · rename_i g1 g2
    obtain rfl := Nat.eq_of_beq_eq_true hx
    simp only [fopd, Option.map_eq_some_iff, Prod.mk.injEq] at h
    obtain ⟨cs, hcs, rfl, rfl⟩ := h
    exact ⟨⟨hg _ _ hcs, trivial⟩, fun _ _ e => e, fun k => by simp [clV, clV0, claim0]⟩
  · cases hx

theorem fopds_ok (hg : GlobOk globs g) {a : Act} : ∀ {xs : List Operand} {ys : List Opd} {f f1 : FEnv} {ps : List PVal}, EnvF g f a.tmps →
    opdsOk xs ys = true → fopds globs ys f = some (ps, f1) → Args g ps (xs.map a.eval) ∧ (∀ t q, f1 t = some q → f t = some q) ∧ ∀ k, clA ps (xs.map a.eval) k + clF a.tmps f1 a.tmps.size k ≤ clF a.tmps f a.tmps.size k
  | [], [], f, f1, ps, he, _, h => by
    simp [fopds] at h
    obtain ⟨rfl, rfl⟩ := h
    exact ⟨.nil, fun _ _ e => e, fun k => by simp [clA]⟩
  | x :: xs, y :: ys, f, f1, ps, he, hx, h => by
    simp only [opdsOk, Bool.and_eq_true] at hx
    simp only [fopds, Option.bind_eq_some_iff, Option.map_eq_some_iff, Prod.mk.injEq] at h
    obtain ⟨⟨p, e1⟩, h1, ⟨ps', e2⟩, h2, rfl, rfl⟩ := h
    obtain ⟨ha, hs, hc⟩ := fopd_ok hg he hx.1 h1
    obtain ⟨ha', hs', hc'⟩ := fopds_ok hg ⟨fun t p e => he.get t p (hs t p e)⟩ hx.2 h2
    refine ⟨.cons ha ha', fun t q e => hs t q (hs' t q e), fun k => ?_⟩
    have := hc k
    have := hc' k
    simp only [List.map_cons, clA]
    omega
  | [], _ :: _, _, _, _, _, hx, _ => by simp [opdsOk] at hx
  | _ :: _, [], _, _, _, _, hx, _ => by simp [opdsOk] at hx

/-- What claims nothing beyond the heap. -/
theorem EnvF.clF_lt (hw : WI g w m) (he : EnvF g f tmps) {b : Nat} (hb : w.heap.size ≤ b) : clF tmps f tmps.size b = 0 := by
  have : ∀ n, clF tmps f n b = 0 := by
    intro n
    induction n with
    | zero => rfl
    | succ n ih =>
      simp only [clF, ih]
      unfold clS
      split
      · rename_i p hp
        obtain ⟨v, hv, _, hok⟩ := he.get n p hp
        rw [getD_of hv, clV_lt hw hok hb]
      · rfl
  exact this _

theorem clV0_none {p : PVal} {v : Value} (h : OwnOk0 g p v) {b : Nat} (hb : g.lg b = none) : clV0 p v b = 0 := by
  unfold clV0
  split
  · rename_i e
    obtain ⟨row, hr⟩ := claim0_lg h e
    rw [hb] at hr; cases hr
  · rfl
theorem clCells_none {b : Nat} (hb : g.lg b = none) : ∀ (cs : List PVal) (vs : List Value), (∀ (i : Nat) p v, cs[i]? = some p → vs[i]? = some v → OwnOk0 g p v) → clCells cs vs b = 0 := by
  intro cs
  induction cs with
  | nil => intro vs _; rfl
  | cons c cs ih =>
    intro vs h
    cases vs with
    | nil => rfl
    | cons x vs =>
      simp only [clCells]
      rw [clV0_none (h 0 c x rfl rfl) hb, ih vs fun i p v hp hv => h (i + 1) p v (by simpa using hp) (by simpa using hv)]
theorem clV_none {p : PVal} {v : Value} (h : OwnOk g p v) {b : Nat} (hb : g.lg b = none) : clV p v b = 0 := by
  unfold OwnOk at h
  unfold clV
  split at h
  · rename_i cs vs
    exact clCells_none hb cs vs.toList fun i p v hp hv => by
      have := h i p hp
      rwa [getD_of (by simpa using hv)] at this
  · exact clV0_none h hb
theorem clA_none {ps : List PVal} {vs : List Value} (h : Args g ps vs) {b : Nat} (hb : g.lg b = none) : clA ps vs b = 0 := by
  induction h with
  | nil => rfl
  | cons h1 _ ih => simp only [clA]; rw [clV_none h1.ok hb, ih]
theorem clM_none (hw : WI g w m) {b : Nat} (hb : g.lg b = none) : clM g w m b = 0 := by
  unfold clM
  have : ∀ l : List (Nat × MObj), (∀ e, e ∈ l → e ∈ m.objs) → clMs g.φ w l b = 0 := by
    intro l
    induction l with
    | nil => intro _; rfl
    | cons e es ih =>
      intro hl
      obtain ⟨id, o⟩ := e
      simp only [clMs]
      have h2 := ih fun e he => hl e (List.mem_cons_of_mem _ he)
      obtain ⟨k, hk, _, ho⟩ := hw.obj id o (hl _ List.mem_cons_self)
      rw [phi_getD hk]
      have h1 : clObj w k o b = 0 := by
        cases o with
        | cells cs =>
          obtain ⟨c, el, hc, hlen, hv⟩ := ho
          simp only [clObj, heapCells, hc]
          exact clCells_none hb cs c.toList fun i p v hp hv' => by
            obtain ⟨_, u, hcv, _, hok⟩ := hv i p hp
            have : u = v := by
              have h2 : c[i]? = some v := by simpa using hv'
              rw [hcv] at h2; exact Option.some.inj h2
            exact this ▸ hok
        | _ => rfl
      omega
  exact this m.objs fun _ h => h

/-- Behind a step the other slots tell what they told. -/
theorem InvK.step {cA : Nat → Nat} {r : PVal} {m' : Mem} {g' : Gh} {w' : World} {v : Value} (h : InvK C0 g0 w0 f m g w tmps cA) (hs : Step cA g w m r m' g' w' v) (hcA : ∀ b, g.lg b = none → cA b = 0) :
    InvK C0 g0 w0 f m' g' w' tmps (clV r v) where
  wi := hs.wi
  env := ⟨fun t p e => by
    obtain ⟨u, hu, hvr, hok⟩ := h.env.get t p e
    refine ⟨u, hu, hvr.mono hs.le, ?_⟩
    have key : ∀ b row, g.lg b = some row → 1 ≤ clV p u b → g'.lg b = g.lg b := fun b row hrow hc => by
      rw [hrow]
      refine hs.keepLg b row hrow ?_
      have h1 := h.pre.total h.c1 b
      have h2 := clS_le (tmps := tmps) (f := f) (b := b) (h.env.lt e)
      simp only [clS, e] at h2
      rw [getD_of hu] at h2
      omega
    have one : ∀ (p : PVal) (u : Value), OwnOk0 g p u → (∀ b, claim0 p u = some b → 1 ≤ clV0 p u b → g'.lg b = g.lg b) → OwnOk0 g' p u := fun p u h hk => h.of_claim fun b hb => hk b hb (by rw [clV0_eq hb]; omega)
    unfold OwnOk at hok ⊢
    split at hok
    · rename_i cs vs
      intro i c hi
      refine one _ _ (hok i c hi) fun b hb _ => ?_
      obtain ⟨row, hrow⟩ := claim0_lg (hok i c hi) hb
      refine key b row hrow ?_
      have : ∀ (cs : List PVal) (vs : List Value) (i : Nat) (c : PVal), cs[i]? = some c → claim0 c (vs.getD i undef) = some b → 1 ≤ clCells cs vs b := by
        intro cs
        induction cs with
        | nil => intro vs i c h; simp at h
        | cons d cs ih =>
          intro vs i c hi hcl
          cases vs with
          | nil =>
            simp [undef] at hcl
            cases c <;> simp [claim0] at hcl
            all_goals (rename_i k; cases k <;> simp at hcl)
          | cons x vs =>
            cases i with
            | zero =>
              simp at hi; subst hi
              simp only [List.getD_cons_zero] at hcl
              simp only [clCells, clV0_eq hcl]; omega
            | succ i =>
              have := ih vs i c (by simpa using hi) (by simpa using hcl)
              simp only [clCells]; omega
      exact this cs vs.toList i c hi (by simpa using hb)
    · rename_i hno
      refine one _ _ hok fun b hb hc => ?_
      obtain ⟨row, hrow⟩ := claim0_lg hok hb
      refine key b row hrow ?_
      have : clV p u b = clV0 p u b := by
        unfold clV; split
        · rename_i cs vs; exact absurd rfl (hno cs vs rfl)
        · rfl
      rw [this]; exact hc⟩
  pre := h.pre.step h.lg0 (fun b hb => h.env.clF_lt h.wi hb) hs
  c1 := h.c1
  lg0 := h.lg0
  fresh := fun t z e => by
    obtain ⟨b, c, el, h1, h2, h3, h4, h5, h6⟩ := h.fresh t z e
    have hb : b < w.heap.size := (Array.getElem?_eq_some_iff.1 h3).1
    have hcm : clM g w m b = 0 := clM_none h.wi h5
    refine ⟨b, c, el, h1, h2, ?_, h4, hs.keepNone b hb h5 h6, fun id e => ?_⟩
    · rw [hs.keepBlk b hb (by rw [hcA b h5, hcm]) h6]; exact h3
    · obtain ⟨ext, he, hn⟩ := hs.φ
      rw [he] at e
      exact hn.not hb h6 e
  apart := h.apart


/-- A slot is filled. -/
theorem InvK.put {a : Act} {r : PVal} {v : Value} (h : InvK C0 g0 w0 f m g w a.tmps (clV r v)) (hv : VR g r v) (ho : OwnOk g r v) (hr : r.isFresh = false) (d : Option Nat) (hd : dstLt a.tmps.size d = true) :
    Inv C0 g0 w0 (fput f d r) m g w (a.put d v).tmps := by
  cases d with
  | none => exact h.toInv
  | some t =>
    have ht : t < a.tmps.size := by simpa [dstLt] using hd
    have hsz : (a.put (some t) v).tmps.size = a.tmps.size := by simp [Act.put]
    have hget : ∀ s, s ≠ t → (a.put (some t) v).tmps[s]? = a.tmps[s]? := fun s hs => by
      simp [Act.put, Array.getElem?_setIfInBounds_ne (Ne.symm hs)]
    have hgett : (a.put (some t) v).tmps[t]? = some v := by simp [Act.put, ht]
    have hnf : ∀ s z, fput f (some t) r s = some (.fresh z) → s ≠ t ∧ f s = some (.fresh z) := fun s z e => by
      by_cases hs : s = t
      · subst hs
        simp only [fput, upd_same, Option.some.injEq] at e
        subst e; simp [PVal.isFresh] at hr
      · simp only [fput] at e
        rw [upd_ne _ _ hs] at e
        exact ⟨hs, e⟩
    refine ⟨h.wi, ⟨fun s p e => ?_⟩, h.pre.weaken fun b => ?_, h.c1, h.lg0, fun s z e => ?_, fun s s' z z' hne e e' => ?_⟩
    · by_cases hs : s = t
      · subst hs
        simp only [fput, upd_same, Option.some.injEq] at e
        subst e
        exact ⟨v, hgett, hv, ho⟩
      · simp only [fput] at e
        rw [upd_ne _ _ hs] at e
        rw [hget s hs]
        exact h.env.get s p e
    · rw [hsz]
      have := clF_one (tmps := a.tmps) (tmps' := (a.put (some t) v).tmps) (f := f) (f' := fput f (some t) r) (b := b) ht fun s _ hs => by
        simp only [clS, fput]
        rw [upd_ne _ _ hs]
        cases f s with
        | none => rfl
        | some p =>
          simp only [Array.getD_eq_getD_getElem?, hget s hs]
      have h2 : clS (a.put (some t) v).tmps (fput f (some t) r) t b = clV r v b := by
        simp only [clS, fput, upd_same, getD_of hgett]
      omega
    · obtain ⟨hs, e⟩ := hnf s z e
      rw [hget s hs]
      exact h.fresh s z e
    · obtain ⟨hs, e⟩ := hnf s z e
      obtain ⟨hs', e'⟩ := hnf s' z' e'
      rw [hget s hs, hget s' hs']
      exact h.apart s s' z z' hne e e'

end
end Go.Ev

/- An operation of the model's, run. -/
namespace Go.Ev

def Enters (P : Program) (f : Nat) : Prop := ∃ fn, P.funcs[f]? = some fn ∧ (fn.name == "runtime.NumGoroutine") = false ∧ fn.body.isNone = false

theorem run_callFunc {P : Program} {f : Nat} {args : Array Value} {w : World} (h : Enters P f) : (callFunc f args).run P w = .ok (.enter f args) w := by
  obtain ⟨fn, h1, h2, h3⟩ := h
  have h2' : ¬ fn.name = "runtime.NumGoroutine" := by simpa using h2
  have h3' : ¬ fn.body = none := by cases hb : fn.body <;> simp_all
  simp [callFunc, h1, h2', h3']

/-- What a call of the evaluator's stands for. -/
def CallOk (P : Program) (G : Code → MCode → Nat → Prop) (globs : Nat → Option (List PVal)) (call : CallF) : Prop :=
  ∀ (f : Nat) (caps ps : List PVal) (m : Mem) (r : PVal) (m' : Mem), call (.func f caps) ps m = some (r, m') → Enters P f ∧
    ∀ (g : Gh) (w : World) (vs : List Value) (cvs : Array Value), g.R = G → WI g w m → GlobOk globs g → (∀ b, clM g w m b ≤ 1) → Args g ps vs → (∀ b, clA ps vs b = 0) → VR g (.func f caps) (.func (.func f) #[] cvs) →
      Calls P f (vs.toArray ++ cvs) w fun e w' => ∃ v g', e = .returned v ∧ Step (fun _ => 0) g w m r m' g' w' v
/-- No other value is called. -/
def OnlyFuncs (call : CallF) : Prop := ∀ fv ps (g : Gh) (w : World) m r, WI g w m → call fv ps m = some r → ∃ f caps, fv = .func f caps

def CloneAt (P : Program) (f sz : Nat) (obj : Bool) : Prop :=
  Enters P f ∧ ∀ (m : Mem) (y r : PVal) (m' : Mem) (call : CallF), core call (.clone f sz obj) [y] m = some (r, m') →
    ∀ (g : Gh) (w : World) (v : Value), WI g w m → (∀ b, clM g w m b ≤ 1) → VR g y v →
      Calls P f #[v] w fun e w' => ∃ u g', e = .returned u ∧ Step (fun _ => 0) g w m r m' g' w' u

section
variable {P : Program} {globs : Nat → Option (List PVal)} {call : CallF} {C0 : Nat → Nat} {g0 : Gh} {w0 : World} {n : Nat} {ops : Array Oper} {Q : Exit → Act → World → Prop}
  {K : Act → World → Prop} {f f' : FEnv} {m m' : Mem} {g : Gh} {w : World} {a : Act} {o : Oper} {mo : MOper} {args : List PVal} {i : Nat}

theorem wanted_ok (hI : EnvF g f a.tmps) (hg : guardOk ops o.guard mo.guard = true) {b : Bool} (h : fwanted mo.guard f = some b) : Region.wanted o (yielded ops a.tmps) = b := by
  unfold guardOk at hg
  unfold Region.wanted
  split at hg
  · rename_i h1 h2
    rw [h2] at h
    simp only [fwanted, Option.some.injEq] at h
    subst h
    rw [h1]
  · rename_i j b1 t c h1 h2
    rw [h2] at h
    rw [h1]
    simp only [Bool.and_eq_true, beq_iff_eq] at hg
    obtain ⟨rfl, hg⟩ := hg
    split at hg
    · rename_i q hq
      have hd : q.dst = some t := by simpa using hg
      have hy : ∀ v, a.tmps[t]? = some v → (∀ c, v = .bool c → yielded ops a.tmps j = some c) ∧ ((∀ c, v ≠ .bool c) → yielded ops a.tmps j = none) := by
        intro v hv
        unfold yielded
        simp only [hq, Option.bind_some, hd, hv]
        refine ⟨fun c e => by subst e; rfl, fun hne => ?_⟩
        cases v <;> first | rfl | exact absurd rfl (hne _)
      show (yielded ops a.tmps j == some b1) = b
      simp only [fwanted] at h
      split at h
      · rename_i c' hf
        obtain ⟨v, hv, hvr, _⟩ := hI.get t _ hf
        obtain rfl := hvr.inv_bool
        rw [(hy _ hv).1 c' rfl]
        simp only [Option.some.injEq] at h
        subst h
        cases c' <;> cases b1 <;> rfl
      · rename_i p hnb hf
        obtain ⟨v, hv, hvr, _⟩ := hI.get t _ hf
        simp only [Option.some.injEq] at h
        subst h
        rw [(hy _ hv).2 fun c e => by subst e; cases hvr; exact hnb _ rfl]
        rfl
      · cases h
    · cases hg
  · cases hg

theorem Inv.le (h : Inv C0 g0 w0 f m g w a.tmps) : g0.Le g := h.pre.le
theorem InvK.le {cA : Nat → Nat} (h : InvK C0 g0 w0 f m g w a.tmps cA) : g0.Le g := h.pre.le

/-- Where an operation goes on, the frame's state holds. -/
def Goes (C0 : Nat → Nat) (g0 : Gh) (w0 : World) (f' : FEnv) (m' : Mem) (a : Act) (K : Act → World → Prop) : Prop :=
  ∀ (a' : Act) (g' : Gh) (w' : World), a'.tmps.size = a.tmps.size → a'.defers = a.defers → Inv C0 g0 w0 f' m' g' w' a'.tmps → K a' w'

theorem put_size (a : Act) (d : Option Tmp) (v : Value) : (a.put d v).tmps.size = a.tmps.size := by cases d <;> simp [Act.put]
theorem put_defers (a : Act) (d : Option Tmp) (v : Value) : (a.put d v).defers = a.defers := by cases d <;> rfl

/-- An operation that is left out. -/
theorem oper_skip (hI : Inv C0 g0 w0 f m g w a.tmps) (hd : dstLt a.tmps.size mo.dst = true) (hdo : o.dst = mo.dst) (hK : Goes C0 g0 w0 (fput f mo.dst (.tuple [])) m a K) : K (a.put o.dst undef) w := by
  rw [hdo]
  refine hK _ g w (put_size _ _ _) (put_defers _ _ _) ?_
  have hcl : ∀ b, clV (.tuple []) undef b = 0 := fun b => rfl
  have h1 : InvK C0 g0 w0 f m g w a.tmps (clV (.tuple []) undef) := hI.toK.sub (fun _ _ e => e) fun b => by rw [hcl]; omega
  exact h1.put (.tuple rfl fun i c h => by simp at h) trivial rfl _ hd

/-- An operation that calls nothing. -/
theorem oper_plain (hok : opOk P o.op mo.op = true) (hnc : isCall mo.op = false) (hargs : opdsOk (argsOf o.op mo.op) mo.args = true) (hdo : o.dst = mo.dst) (hd : dstLt a.tmps.size mo.dst = true)
    (hI : Inv C0 g0 w0 f m g w a.tmps) (hg0 : GlobOk globs g0) {ps : List PVal} {f1 : FEnv} (h1 : fopds globs mo.args f = some (ps, f1)) {r : PVal} (h2 : core call mo.op ps m = some (r, m')) (hr : r.isFresh = false)
    (hK : Goes C0 g0 w0 (fput f1 mo.dst r) m' a K) : o.wp P a w K Q := by
  obtain ⟨ha, hs, hc⟩ := fopds_ok (hg0.mono hI.le) hI.env hargs h1
  have hIK : InvK C0 g0 w0 f1 m g w a.tmps (clA ps ((argsOf o.op mo.op).map a.eval)) := hI.toK.sub hs fun b => by have := hc b; omega
  have htot : ∀ b, clA ps ((argsOf o.op mo.op).map a.eval) b + clM g w m b ≤ 1 := fun b => by
    have := hIK.pre.total hI.c1 b
    omega
  obtain ⟨op, dst, ty, pos, after, guard⟩ := o
  obtain ⟨g', w', v, hrun, hst⟩ := sim_core (P := P) (ρ := a.eval) (dst := op) (op := dst) (ty := ty) (pos := pos) (after := after) (guard := guard) hok hnc hIK.wi ha (fun b => Nat.le_refl _) htot h2
  have hI2 := (hIK.step hst fun b hb => clA_none ha hb).put hst.vr hst.ok hr mo.dst hd
  simp only at hdo
  have hgo : K (a.put op v) w' := by
    rw [hdo]
    exact hK _ g' w' (put_size _ _ _) (put_defers _ _ _) hI2
  unfold Oper.wp
  rcases hrun with hrun | ⟨hrun, rfl⟩
  · rw [hrun]; exact hgo
  · rw [hrun]; exact hgo

end
end Go.Ev

/- Variables that are made, and calls. -/
namespace Go.Ev

section
variable {P : Program} {globs : Nat → Option (List PVal)} {call : CallF} {C0 : Nat → Nat} {g0 : Gh} {w0 : World} {n : Nat} {ops : Array Oper} {Q : Exit → Act → World → Prop}
  {K : Act → World → Prop} {f f' : FEnv} {m m' : Mem} {g : Gh} {w : World} {a : Act} {o : Oper} {mo : MOper} {args : List PVal} {i : Nat}

theorem clM_alloc (hw : WI g w m) (ob : Obj) (k : Nat) : clM g (w.alloc ob) m k = clM g w m k :=
  clMs_congr (φ := g.φ) (φ' := g.φ) (w := w) (w' := w.alloc ob) (l := m.objs) (fun id o he => by
    obtain ⟨b, hb, _, hr⟩ := hw.obj id o he
    rw [phi_getD hb]
    exact ⟨rfl, heapCells_congr (alloc_old w ob hr.lt)⟩) k

theorem alloc_size (w : World) (ob : Obj) : (w.alloc ob).heap.size = w.heap.size + 1 := by unfold World.alloc; simp

theorem WI.alloc (hw : WI g w m) (ob : Obj) : WI g (w.alloc ob) m where
  lg := fun b row e => by
    obtain ⟨c, fz, hc, rest⟩ := hw.lg b row e
    exact ⟨c, fz, (alloc_old w ob (hw.lg_lt e)).trans hc, rest⟩
  len := hw.len
  sorted := hw.sorted
  bound := hw.bound
  obj := fun id o h => by
    obtain ⟨b, h1, h2, h3⟩ := hw.obj id o h
    exact ⟨b, h1, h2, h3.mono (Gh.Le.refl g) (alloc_old w ob h3.lt) fun p v h _ => h⟩
  inj := hw.inj
  scope := hw.scope
  phi := fun id b e => by have := hw.phi id b e; rw [alloc_size]; omega
  bsz := fun id b e c el fz hc => hw.bsz id b e c el fz (by rw [← alloc_old w ob (hw.phi id b e)]; exact hc)

/-- A variable is made that nobody knows yet. -/
theorem oper_fresh {t : TypeId} {z : List PVal} (hop : o.op = .alloc t) (hz : zeroOk P t z = true) (hdo : o.dst = mo.dst) (hd : dstLt a.tmps.size mo.dst = true)
    (hI : Inv C0 g0 w0 f m g w a.tmps) (hK : Goes C0 g0 w0 (fput f mo.dst (.fresh z)) m a K) : o.wp P a w K Q := by
  obtain ⟨i, zv, hi, hzz, hzok⟩ := zeroOk_spec hz
  obtain ⟨op, dst, ty, pos, after, guard⟩ := o
  simp only at hop hdo
  subst hop
  have hrun : (execOp a.eval ⟨op, .alloc t, ty, pos, after, guard⟩).run P w = .ok (.value (.pointer (some ⟨w.heap.size, 0, none⟩))) (w.alloc (.cells zv.cells t)) := by
    simp [execOp, Instr.alloc, zeroValue, run_typeInfo' hi, hzz, newVar, newRow]
  unfold Oper.wp
  rw [hrun]
  show K (a.put op _) _
  rw [hdo]
  generalize hv : Value.pointer (some ⟨w.heap.size, 0, none⟩) = v
  have hnone : ∀ id : Nat, g.φ[id]? ≠ some w.heap.size := fun id e => by have := hI.wi.phi id _ e; omega
  have hlen : zv.cells.size = z.length := by have := rep_size hzok; exact this.symm
  have hpre : ∀ f2 : FEnv, ∀ tm2 : Array Value, (∀ b, clF tm2 f2 tm2.size b ≤ clF a.tmps f a.tmps.size b) → Pre C0 g0 w0 (fun b => clF tm2 f2 tm2.size b + clM g (w.alloc (.cells zv.cells t)) m b) g (w.alloc (.cells zv.cells t)) := fun f2 tm2 hle => {
    size := by have := hI.pre.size; rw [alloc_size]; omega
    φ := hI.pre.φ
    lgle := hI.pre.lgle
    bs := hI.pre.bs
    claims := fun b hb => by have := hI.pre.claims b hb; have := hle b; rw [clM_alloc hI.wi]; omega
    claims' := fun b hb => by have := hI.pre.claims' b hb; have := hle b; rw [clM_alloc hI.wi]; omega
    keepLg := hI.pre.keepLg
    keepBlk := fun b hb h0 hno => by
      rw [alloc_old w _ (by have := hI.pre.size; omega)]
      exact hI.pre.keepBlk b hb h0 hno
    fz := hI.pre.fz.trans (.push rfl) hI.pre.size
    R := hI.pre.R
    keepNone := hI.pre.keepNone
    os := hI.pre.os }
  have hnew : (w.alloc (.cells zv.cells t)).heap[w.heap.size]? = some (.cells zv.cells t (0, 0)) := by unfold World.alloc; simp
  have hold : ∀ t' z', f t' = some (.fresh z') → ∃ b c el, a.tmps[t']? = some (.pointer (some ⟨b, 0, none⟩)) ∧ w0.heap.size ≤ b ∧ (w.alloc (.cells zv.cells t)).heap[b]? = some (.cells c el (0, 0)) ∧ c.size = z'.length ∧ g.lg b = none ∧ (∀ id : Nat, g.φ[id]? ≠ some b) ∧ b < w.heap.size := fun t' z' e => by
    obtain ⟨b, c, el, h1, h2, h3, h4, h5, h6⟩ := hI.fresh t' z' e
    have hb := (Array.getElem?_eq_some_iff.1 h3).1
    exact ⟨b, c, el, h1, h2, (alloc_old w _ hb).trans h3, h4, h5, h6, hb⟩
  refine hK _ g _ (put_size _ _ _) (put_defers _ _ _) ?_
  cases hdst : mo.dst with
  | none =>
    exact ⟨hI.wi.alloc _, hI.env, hpre _ _ fun b => Nat.le_refl _, hI.c1, hI.lg0, fun t' z' e => by
      obtain ⟨b, c, el, h1, h2, h3, h4, h5, h6, _⟩ := hold t' z' e
      exact ⟨b, c, el, h1, h2, h3, h4, h5, h6⟩, hI.apart⟩
  | some d =>
    rw [hdst] at hd
    have ht : d < a.tmps.size := by simpa [dstLt] using hd
    have hsz : (a.put (some d) v).tmps.size = a.tmps.size := put_size _ _ _
    have hget : ∀ s, s ≠ d → (a.put (some d) v).tmps[s]? = a.tmps[s]? := fun s hs => by
      simp [Act.put, Array.getElem?_setIfInBounds_ne (Ne.symm hs)]
    have hgetd : (a.put (some d) v).tmps[d]? = some v := by simp [Act.put, ht]
    refine ⟨hI.wi.alloc _, ⟨fun s p e => ?_⟩, hpre _ _ fun b => ?_, hI.c1, hI.lg0, fun s z' e => ?_, fun s s' z1 z2 hne e e' => ?_⟩
    · by_cases hs : s = d
      · subst hs
        simp only [fput, upd_same, Option.some.injEq] at e
        subst e
        exact ⟨v, hgetd, hv ▸ .fresh, trivial⟩
      · simp only [fput] at e
        rw [upd_ne _ _ hs] at e
        rw [hget s hs]
        exact hI.env.get s p e
    · rw [hsz]
      have := clF_one (tmps := a.tmps) (tmps' := (a.put (some d) v).tmps) (f := f) (f' := fput f (some d) (.fresh z)) (b := b) ht fun s _ hs => by
        simp only [clS, fput]
        rw [upd_ne _ _ hs]
        cases f s with
        | none => rfl
        | some p => simp only [Array.getD_eq_getD_getElem?, hget s hs]
      have h2 : clS (a.put (some d) v).tmps (fput f (some d) (.fresh z)) d b = 0 := by
        simp only [clS, fput, upd_same]
        simp [clV, clV0, claim0]
      omega
    · by_cases hs : s = d
      · subst hs
        simp only [fput, upd_same, Option.some.injEq, PVal.fresh.injEq] at e
        subst e
        exact ⟨w.heap.size, zv.cells, t, by rw [hgetd, hv], hI.pre.size, hnew, hlen, hI.wi.none_new, hnone⟩
      · simp only [fput] at e
        rw [upd_ne _ _ hs] at e
        obtain ⟨b, c, el, h1, h2, h3, h4, h5, h6, _⟩ := hold s z' e
        exact ⟨b, c, el, by rw [hget s hs]; exact h1, h2, h3, h4, h5, h6⟩
    · have lt_of : ∀ s z', s ≠ d → fput f (some d) (.fresh z) s = some (.fresh z') → ∃ b, (a.put (some d) v).tmps[s]? = some (.pointer (some ⟨b, 0, none⟩)) ∧ b < w.heap.size ∧ f s = some (.fresh z') := fun s z' hs e => by
        simp only [fput] at e
        rw [upd_ne _ _ hs] at e
        obtain ⟨b, c, el, h1, _, _, _, _, _, hb⟩ := hold s z' e
        exact ⟨b, by rw [hget s hs]; exact h1, hb, e⟩
      by_cases hs : s = d
      · have hs' : s' ≠ d := fun e => hne (hs.trans e.symm)
        obtain ⟨b, h1, h2, _⟩ := lt_of s' z2 hs' e'
        rw [hs, hgetd, h1, ← hv]
        intro h; injection h with h; injection h with h; injection h with h; injection h with h; omega
      · obtain ⟨b, h1, h2, h3⟩ := lt_of s z1 hs e
        by_cases hs' : s' = d
        · rw [hs', hgetd, h1, ← hv]
          intro h; injection h with h; injection h with h; injection h with h; injection h with h; omega
        · obtain ⟨b', h1', h2', h3'⟩ := lt_of s' z2 hs' e'
          rw [hget s hs, hget s' hs']
          exact hI.apart s s' z1 z2 hne h3 h3'

end
end Go.Ev

/- Calls. -/
namespace Go.Ev

section
variable {P : Program} {globs : Nat → Option (List PVal)} {call : CallF} {C0 : Nat → Nat} {g0 : Gh} {w0 : World} {n : Nat} {ops : Array Oper} {Q : Exit → Act → World → Prop}
  {K : Act → World → Prop} {f f' : FEnv} {m m' : Mem} {g : Gh} {w : World} {a : Act} {o : Oper} {mo : MOper} {args : List PVal} {i : Nat}

theorem VR.inv_func {k : Nat} {caps : List PVal} {v : Value} (h : VR g (.func k caps) v) : ∃ vs, v = .func (.func k) #[] vs := by cases h; exact ⟨_, rfl⟩

theorem Args.map_nz1 {ps : List PVal} {vs : List Value} (h : Args g ps vs) : Args g (ps.map PVal.nz1) vs ∧ ∀ b, clA (ps.map PVal.nz1) vs b = 0 := by
  induction h with
  | nil => exact ⟨.nil, fun _ => rfl⟩
  | cons h1 _ ih => exact ⟨.cons h1.nz1 ih.1, fun b => by simp only [List.map_cons, clA]; rw [clV_nz1, ih.2]⟩

theorem Res.none_of {cA : Nat → Nat} (h : InvK C0 g0 w0 f m g w a.tmps cA) : InvK C0 g0 w0 f m g w a.tmps (fun _ => 0) := h.sub (fun _ _ e => e) fun b => by omega

/-- Behind a call. -/
theorem call_goes {r : PVal} {fid : Nat} {vs : Array Value} (hIK : InvK C0 g0 w0 f m g w a.tmps (fun _ => 0)) (hd : dstLt a.tmps.size mo.dst = true) (hdo : o.dst = mo.dst) (hr : r.isFresh = false)
    (hrun : (execOp a.eval o).run P w = .ok (.enter fid vs) w) (hc : Calls P fid vs w fun e w' => ∃ v g', e = .returned v ∧ Step (fun _ => 0) g w m r m' g' w' v)
    (hK : Goes C0 g0 w0 (fput f mo.dst r) m' a K) : o.wp P a w K Q := by
  unfold Oper.wp
  rw [hrun, Oper.upon_enter]
  refine hc.mono fun e w' he => ?_
  obtain ⟨v, g', rfl, hst⟩ := he
  show K (a.put o.dst v) w'
  rw [hdo]
  exact hK _ g' w' (put_size _ _ _) (put_defers _ _ _) ((hIK.step hst fun b _ => rfl).put hst.vr hst.ok hr mo.dst hd)

theorem oper_call {c : Call} (hop : o.op = .call c) (hok : callOk P c .call = true) (hargs : opdsOk (argsOf o.op .call) mo.args = true) (hdo : o.dst = mo.dst) (hd : dstLt a.tmps.size mo.dst = true)
    (hI : Inv C0 g0 w0 f m g w a.tmps) (hg0 : GlobOk globs g0) (hcall : CallOk P g0.R globs call) (hfun : OnlyFuncs call) {ps : List PVal} {f1 : FEnv} (h1 : fopds globs mo.args f = some (ps, f1)) {r : PVal} (h2 : core call .call ps m = some (r, m')) (hr : r.isFresh = false)
    (hK : Goes C0 g0 w0 (fput f1 mo.dst r) m' a K) : o.wp P a w K Q := by
  obtain ⟨callee, cargs, argTypes⟩ := c
  cases callee with
  | value fo =>
    have hao : argsOf o.op .call = fo :: cargs.toList := by rw [hop]; rfl
    rw [hao] at hargs
    obtain ⟨ha, hs, hc⟩ := fopds_ok (hg0.mono hI.le) hI.env hargs h1
    have hIK : InvK C0 g0 w0 f1 m g w a.tmps (fun _ => 0) := hI.toK.sub hs fun b => by have := hc b; omega
    cases ha with
    | cons hp hq =>
      rename_i pf xs
      simp only [core] at h2
      obtain ⟨fid, caps, rfl⟩ := hfun _ _ _ _ _ _ hIK.wi h2
      obtain ⟨hen, hcon⟩ := hcall fid caps _ m r m' h2
      obtain ⟨cvs, hfv⟩ := hp.vr.inv_func
      have hpv := hp.vr
      rw [hfv] at hpv
      obtain ⟨hqa, hqz⟩ := Args.map_nz1 hq
      have htot : ∀ b, clM g w m b ≤ 1 := fun b => by
        have := hIK.pre.total hI.c1 b
        omega
      have hcalls := hcon g w (cargs.toList.map a.eval) cvs hI.pre.R hIK.wi (hg0.mono hIK.le) htot hqa hqz hpv
      have hrun : (execOp a.eval o).run P w = .ok (.enter fid ((cargs.toList.map a.eval).toArray ++ cvs)) w := by
        obtain ⟨dst, op, ty, pos, after, guard⟩ := o
        dsimp only at hop
        subst hop
        have he := run_callFunc (args := (cargs.toList.map a.eval).toArray ++ cvs) (w := w) hen
        have hm : cargs.map a.eval = (cargs.toList.map a.eval).toArray := by apply Array.ext'; rw [Array.toList_map]
        simp only [execOp, resolve, hfv, Deferred.ofValue, invoke, hm, Sem.run_bind, Sem.run_pure, Result.andThen_ok]
        rw [← he]; simp
      exact call_goes hIK hd hdo hr hrun hcalls hK
  | _ => exact absurd hok Bool.false_ne_true

theorem oper_clone {c : Call} {fid sz : Nat} {obj : Bool} (hop : o.op = .call c) (hok : callOk P c (.clone fid sz obj) = true) (hargs : opdsOk (argsOf o.op (.clone fid sz obj)) mo.args = true) (hdo : o.dst = mo.dst) (hd : dstLt a.tmps.size mo.dst = true)
    (hI : Inv C0 g0 w0 f m g w a.tmps) (hg0 : GlobOk globs g0) (hcl : CloneAt P fid sz obj) {ps : List PVal} {f1 : FEnv} (h1 : fopds globs mo.args f = some (ps, f1)) {r : PVal} (h2 : core call (.clone fid sz obj) ps m = some (r, m')) (hr : r.isFresh = false)
    (hK : Goes C0 g0 w0 (fput f1 mo.dst r) m' a K) : o.wp P a w K Q := by
  have hsh : ∃ k x, c.callee = .value (.func k) ∧ c.args.toList = [x] ∧ fid = k := by
    simp only [callOk] at hok
    split at hok
    · rename_i k x h1 h2
      exact ⟨k, _, h1, h2, Nat.eq_of_beq_eq_true hok⟩
    · cases hok
  obtain ⟨callee, cargs, argTypes⟩ := c
  obtain ⟨k, x, hcal, hx, rfl⟩ := hsh
  simp only at hcal hx
  subst hcal
  · skip
    have hao : argsOf o.op (.clone fid sz obj) = [x] := by rw [hop]; exact hx
    rw [hao] at hargs
    obtain ⟨ha, hs, hc⟩ := fopds_ok (hg0.mono hI.le) hI.env hargs h1
    have hIK : InvK C0 g0 w0 f1 m g w a.tmps (fun _ => 0) := hI.toK.sub hs fun b => by have := hc b; omega
    obtain ⟨p, rfl, hp⟩ := Args.one (v := a.eval x) ha
    obtain ⟨hen, hcon⟩ := hcl
    have htot : ∀ b, clM g w m b ≤ 1 := fun b => by
      have := hIK.pre.total hI.c1 b
      omega
    have hcalls := hcon m p r m' call h2 g w (a.eval x) hIK.wi htot hp.vr
    have hrun : (execOp a.eval o).run P w = .ok (.enter fid #[a.eval x]) w := by
      obtain ⟨dst, op, ty, pos, after, guard⟩ := o
      simp only at hop
      subst hop
      have he := run_callFunc (args := #[a.eval x]) (w := w) hen
      have hm : cargs.map a.eval = #[a.eval x] := by
        have : cargs = #[x] := by cases cargs; simp_all
        rw [this]; simp
      have hf : a.eval (.func fid) = .func (.func fid) #[] #[] := rfl
      simp only [execOp, resolve, hm, hf, Deferred.ofValue, invoke, Sem.run_bind, Sem.run_pure, Result.andThen_ok]
      simpa using he
    exact call_goes hIK hd hdo hr hrun hcalls hK

end
end Go.Ev

/- The first store to a variable. -/
namespace Go.Ev

section
variable {P : Program} {globs : Nat → Option (List PVal)} {call : CallF} {C0 : Nat → Nat} {g0 : Gh} {w0 : World} {n : Nat} {ops : Array Oper} {Q : Exit → Act → World → Prop}
  {K : Act → World → Prop} {f f' : FEnv} {m m' : Mem} {g : Gh} {w : World} {a : Act} {o : Oper} {mo : MOper} {args : List PVal} {i : Nat}

theorem WI.adopt (hw : WI g w m) {b : Nat} {c : Array Value} {el : TypeId} {cs : List PVal} {vs : List Value} (hb : w.heap[b]? = some (.cells c el (0, 0))) (hl : g.lg b = none) (hno : ∀ id : Nat, g.φ[id]? ≠ some b)
    (hcs : CellsR g cs vs) : WI (g.app b vs.length) (w.setRow b vs.toArray) (m.push (.cells cs)) := by
  have hle : g.Le (g.app b vs.length) := Gh.app_le fun id e => absurd e (hno id)
  have hbl : b < w.heap.size := (Array.getElem?_eq_some_iff.1 hb).1
  have hrow : (w.setRow b vs.toArray).heap[b]? = some (.cells vs.toArray el (0, 0)) := setRow_heap w b c _ el _ hb
  have hoth : ∀ k, k ≠ b → (w.setRow b vs.toArray).heap[k]? = w.heap[k]? := fun k hk => setRow_other w b k _ hk
  have hnew : (g.φ ++ [b])[m.next]? = some b := by
    rw [← hw.len, List.getElem?_append_right (Nat.le_refl _)]; simp
  have old : ∀ i o k, (i, o) ∈ m.objs → (g.φ ++ [b])[i]? = some k → g.φ[i]? = some k := fun i o k hm e => by
    obtain ⟨b', hb', _, _⟩ := hw.obj i o hm
    have h2 : (g.φ ++ [b])[i]? = some b' := hle.φ _ _ hb'
    rw [h2] at e; cases e; exact hb'
  refine ⟨fun k row e => ?_, by show (g.φ ++ [b]).length = m.next + 1; simp [hw.len], ?_, fun e he => ?_, fun i o he => ?_, fun i o1 j o2 k hi hj ei ej => ?_, fun i o he => ?_, fun i k e => ?_, fun i k e c' e' f' hc' => ?_⟩
  · obtain ⟨c', fz, hc', rest⟩ := hw.lg k row e
    refine ⟨c', fz, ?_, rest⟩
    rw [hoth k fun h => by subst h; exact absurd (hl.symm.trans e) (by simp)]
    exact hc'
  · simp only [Mem.push, List.pairwise_cons]
    exact ⟨fun e he => hw.bound e he, hw.sorted⟩
  · rcases List.mem_cons.1 he with h | h
    · subst h; simp [Mem.push]
    · have := hw.bound e h; simp [Mem.push]; omega
  · rcases List.mem_cons.1 he with h | h
    · cases h
      refine ⟨b, hnew, hl, vs.toArray, el, hrow, by rw [hcs.len]; simp, fun j p hp => ?_⟩
      obtain ⟨h1, v, h2, h3, h4⟩ := hcs.get j p hp
      exact ⟨h1, v, by simpa using h2, h3.mono hle, h4.of_claim fun _ _ => rfl⟩
    · obtain ⟨k, hk, hn, hr⟩ := hw.obj i o h
      exact ⟨k, hle.φ _ _ hk, hn, hr.mono hle (hoth k fun e => by subst e; exact hno i hk) fun p v h _ => h.of_claim fun _ _ => rfl⟩
  · rcases List.mem_cons.1 hi with h | h <;> rcases List.mem_cons.1 hj with h' | h'
    · cases h; cases h'; rfl
    · cases h
      have := hnew.symm.trans ei; cases this
      exact absurd (old j o2 _ h' ej) (hno j)
    · cases h'
      have := hnew.symm.trans ej; cases this
      exact absurd (old i o1 _ h ei) (hno i)
    · exact hw.inj i o1 j o2 k h h' (old i o1 k h ei) (old j o2 k h' ej)
  · rcases List.mem_cons.1 he with h | h
    · cases h; exact .inr (cells_under hw hcs)
    · exact hw.scope i o h
  · have hs : (w.setRow b vs.toArray).heap.size = w.heap.size := by simp
    rw [hs]
    by_cases hid : i < g.φ.length
    · have e' : g.φ[i]? = some k := by rw [← List.getElem?_append_left hid]; exact e
      exact hw.phi i k e'
    · have e' : [b][i - g.φ.length]? = some k := by rw [← List.getElem?_append_right (by omega)]; exact e
      have := List.mem_of_getElem? e'
      simp at this; omega
  · show c'.size = if k = b then vs.length else g.bs k
    by_cases hk : k = b
    · subst hk
      rw [if_pos rfl]
      rw [hrow] at hc'; cases hc'; simp
    · rw [if_neg hk]
      rw [hoth k hk] at hc'
      have e2 : (g.φ ++ [b])[i]? = some k := e
      by_cases hid : i < g.φ.length
      · exact hw.bsz i k (by rw [← List.getElem?_append_left hid]; exact e2) c' e' f' hc'
      · have e3 : [b][i - g.φ.length]? = some k := by rw [← List.getElem?_append_right (by omega)]; exact e2
        have := List.mem_of_getElem? e3
        simp at this; exact absurd this hk

theorem clM_adopt (hw : WI g w m) {b : Nat} {c : Array Value} {el : TypeId} {cs : List PVal} {vs : List Value} (hb : w.heap[b]? = some (.cells c el (0, 0))) (hno : ∀ id : Nat, g.φ[id]? ≠ some b) (k : Nat) :
    clM (g.app b vs.length) (w.setRow b vs.toArray) (m.push (.cells cs)) k = clCells cs vs k + clM g w m k := by
  unfold clM
  simp only [Mem.push, clMs]
  have hnew : (g.φ ++ [b])[m.next]? = some b := by
    rw [← hw.len, List.getElem?_append_right (Nat.le_refl _)]; simp
  have happ : (g.app b vs.length).φ = g.φ ++ [b] := rfl
  rw [happ, phi_getD hnew]
  have hrow : (w.setRow b vs.toArray).heap[b]? = some (.cells vs.toArray el (0, 0)) := setRow_heap w b c _ el _ hb
  have h1 : clObj (w.setRow b vs.toArray) b (.cells cs) k = clCells cs vs k := by simp [clObj, heapCells, hrow]
  rw [h1]
  congr 1
  refine clMs_congr (fun id o' he => ?_) k
  obtain ⟨b', hb', _, hr⟩ := hw.obj id o' he
  have h2 : (g.φ ++ [b])[id]? = some b' := pre_get (List.prefix_append _ _) hb'
  rw [phi_getD hb', phi_getD h2]
  exact ⟨rfl, heapCells_congr (setRow_other w b b' _ fun e => by subst e; exact hno id hb')⟩

theorem oper_init {t : TypeId} {s : Nat} {y : Operand} {x : Opd} {keep : Bool} {k : Nat} {z cs : List PVal} {p : PVal} {f1 : FEnv} (hop : o.op = .store t (.tmp s) y) (hdo : o.dst = none) (hsz : sizeOk P t k = true)
    (hI : Inv C0 g0 w0 f m g w a.tmps) (hg0 : GlobOk globs g0) (hf : f s = some (.fresh z)) (hx : opdOk y x = true) (h1 : fopd globs x (upd f s none) = some (p, f1))
    (hcs : cellsOf (bif keep then p else p.nz1) = some cs) (hck : cs.length = k) (hzk : z.length = k)
    (hK : Goes C0 g0 w0 (upd f1 s (some (.ptr m.next 0))) (m.push (.cells cs)) a K) : o.wp P a w K Q := by
  obtain ⟨inf, hi, hs⟩ := sizeOk_spec hsz
  obtain ⟨b, c, el, htm, hb0, hb, hcz, hlg, hno⟩ := hI.fresh s z hf
  have hst : s < a.tmps.size := (Array.getElem?_eq_some_iff.1 htm).1
  have hsub0 : ∀ t q, upd f s none t = some q → f t = some q := fun t q e => by
    by_cases h : t = s
    · subst h; rw [upd_same] at e; cases e
    · rwa [upd_ne _ _ h] at e
  obtain ⟨hp, hsub1, hc1⟩ := fopd_ok (hg0.mono hI.le) (f := upd f s none) (a := a) ⟨fun t q e => hI.env.get t q (hsub0 t q e)⟩ hx h1
  have hsub : ∀ t q, f1 t = some q → f t = some q := fun t q e => hsub0 t q (hsub1 t q e)
  have hf1s : f1 s = none := by
    cases h : f1 s with
    | none => rfl
    | some q => have := hsub1 s q h; rw [upd_same] at this; cases this
  obtain ⟨hk, hkc⟩ := hp.keep keep
  obtain ⟨hcells, hclc⟩ := cellsOf_ok hk hcs
  have hea : a.eval (.tmp s) = .pointer (some ⟨b, 0, none⟩) := by simp [Act.eval, htm]
  have hvs : (a.eval y).cells.size = inf.size := by have := hcells.len; simp at this; omega
  have hrun0 := run_storeVar_cells (P := P) (w := w) (t := t) (v := a.eval y) hi hvs hb (off := 0) (by omega) (cells_one hcells)
  have hrows : (c.toList.take 0 ++ (a.eval y).cells.toList ++ c.toList.drop (0 + (a.eval y).cells.toList.length)).toArray = (a.eval y).cells.toList.toArray := by
    have : c.toList.drop (0 + (a.eval y).cells.toList.length) = [] := by
      apply List.drop_eq_nil_of_le
      simp; omega
    rw [this]; simp
  rw [hrows] at hrun0
  have hrun : (execOp a.eval o).run P w = .ok .skip (w.setRow b (a.eval y).cells.toList.toArray) := by
    obtain ⟨dst, op, ty, pos, after, guard⟩ := o
    dsimp only at hop
    subst hop
    simp [execOp, Instr.storeAt, hea, Instr.sureAddr]
    simp at hrun0
    simp [hrun0]
  unfold Oper.wp
  rw [hrun]
  show K (a.put o.dst undef) _
  rw [hdo]
  show K a _
  have hle : g.Le (g.app b (a.eval y).cells.toList.length) := Gh.app_le fun id e => absurd e (hno id)
  have hnew : (g.φ ++ [b])[m.next]? = some b := by
    rw [← hI.wi.len, List.getElem?_append_right (Nat.le_refl _)]; simp
  have hclF : ∀ j, clF a.tmps (upd f1 s (some (.ptr m.next 0))) a.tmps.size j ≤ clF a.tmps f1 a.tmps.size j := fun j => clF_le fun t _ => by
    by_cases h : t = s
    · subst h; simp [clS, upd_same, clV, clV0, claim0]
    · simp [clS, upd_ne _ _ h]
  have hclf : ∀ j, clF a.tmps (upd f s none) a.tmps.size j ≤ clF a.tmps f a.tmps.size j := fun j => clF_le fun t _ => by
    by_cases h : t = s
    · subst h; simp [clS, upd_same]
    · simp [clS, upd_ne _ _ h]
  refine hK a (g.app b (a.eval y).cells.toList.length) _ rfl rfl ⟨hI.wi.adopt hb hlg hno hcells, ⟨fun t q e => ?_⟩, ?_, hI.c1, hI.lg0, fun t z' e => ?_, fun t t' z1 z2 hne e e' => ?_⟩
  · by_cases h : t = s
    · subst h
      rw [upd_same] at e
      cases e
      exact ⟨_, htm, .ptr hnew, trivial⟩
    · rw [upd_ne _ _ h] at e
      obtain ⟨u, h1, h2, h3⟩ := hI.env.get t q (hsub t q e)
      refine ⟨u, h1, h2.mono hle, ?_⟩
      unfold OwnOk at h3 ⊢
      split at h3
      · exact fun i c hi => (h3 i c hi).of_claim fun _ _ => rfl
      · exact h3.of_claim fun _ _ => rfl
  · have hpre := hI.pre
    have htot : ∀ j, clF a.tmps (upd f1 s (some (.ptr m.next 0))) a.tmps.size j + clM (g.app b (a.eval y).cells.toList.length) (w.setRow b (a.eval y).cells.toList.toArray) (m.push (.cells cs)) j ≤ clF a.tmps f a.tmps.size j + clM g w m j := fun j => by
      rw [clM_adopt hI.wi hb hno]
      have := hclF j; have := hclf j; have := hc1 j; have := hclc j; have := hkc j
      omega
    exact {
      size := by have := hpre.size; simpa using this
      φ := by
        obtain ⟨ext, he, hn⟩ := hpre.φ
        refine ⟨ext ++ [b], by show g.φ ++ [b] = _; simp [he], fun j hj => ?_⟩
        rcases List.mem_append.1 hj with h | h
        · exact hn j h
        · simp at h; left; omega
      lgle := hpre.lgle
      bs := (hpre.le.trans hle).bs
      claims := fun j hj => Nat.le_trans (htot j) (hpre.claims j hj)
      claims' := fun j hj => Nat.le_trans (htot j) (hpre.claims' j hj)
      keepLg := hpre.keepLg
      keepBlk := fun j hj h0 hn => by
        rw [setRow_other w b j _ (by omega)]
        exact hpre.keepBlk j hj h0 hn
      fz := hpre.fz.trans (.setRow hb) hpre.size
      R := hpre.R
      keepNone := hpre.keepNone
      os := hpre.os }
  · have hts : t ≠ s := fun h => by subst h; rw [upd_same] at e; cases e
    rw [upd_ne _ _ hts] at e
    obtain ⟨b', c', el', h1, h2, h3, h4, h5, h6⟩ := hI.fresh t z' (hsub t _ e)
    have hbb : b' ≠ b := fun h => by
      subst h
      exact hI.apart t s z' z hts (hsub t _ e) hf (h1.trans htm.symm)
    refine ⟨b', c', el', h1, h2, by rw [setRow_other w b b' _ hbb]; exact h3, h4, h5, fun id h => ?_⟩
    have h : (g.φ ++ [b])[id]? = some b' := h
    by_cases hid : id < g.φ.length
    · rw [List.getElem?_append_left hid] at h; exact h6 id h
    · rw [List.getElem?_append_right (by omega)] at h
      have := List.mem_of_getElem? h
      simp at this; exact hbb this
  · have hts : t ≠ s := fun h => by subst h; rw [upd_same] at e; cases e
    have hts' : t' ≠ s := fun h => by subst h; rw [upd_same] at e'; cases e'
    rw [upd_ne _ _ hts] at e
    rw [upd_ne _ _ hts'] at e'
    exact hI.apart t t' z1 z2 hne (hsub t _ e) (hsub t' _ e')

end
end Go.Ev

/- Any operation in a frame. -/
namespace Go.Ev

section
variable {P : Program} {globs : Nat → Option (List PVal)} {call : CallF} {C0 : Nat → Nat} {g0 : Gh} {w0 : World} {n : Nat} {ops : Array Oper} {Q : Exit → Act → World → Prop}
  {K : Act → World → Prop} {f f' : FEnv} {m m' : Mem} {g : Gh} {w : World} {a : Act} {o : Oper} {mo : MOper} {args : List PVal} {i : Nat}

/-- What the calls of a piece of code rest on. -/
structure Ctx (P : Program) (globs : Nat → Option (List PVal)) (call : CallF) (g0 : Gh) : Prop where
  glob : GlobOk globs g0
  calls : CallOk P g0.R globs call
  funs : OnlyFuncs call

theorem dst_of (h : dstOk o mo = true) (hno : ∀ n k, mo.op ≠ .init n k) : o.dst = mo.dst := by
  unfold dstOk at h
  split at h
  · rename_i n k hop; exact absurd hop (hno n k)
  · simpa using h

theorem oper_ok (hok : operOk P n ops o mo = true) (hn : a.tmps.size = n) (hI : Inv C0 g0 w0 f m g w a.tmps) (hc : Ctx P globs call g0) (hcl : ∀ k sz obj, mo.op = .clone k sz obj → CloneAt P k sz obj)
    (h : fOper globs call mo (f, m) = some (args, (f', m'))) (hi : ops[i]? = some o) (hK : Goes C0 g0 w0 f' m' a K) : wpOp P ops Q i K a w := by
  simp only [operOk, Bool.and_eq_true] at hok
  obtain ⟨⟨⟨⟨hdst, hlt⟩, hgd⟩, hargs⟩, hop⟩ := hok
  subst hn
  unfold fOper at h
  simp only [Option.bind_eq_some_iff] at h
  obtain ⟨b, hb, h⟩ := h
  have hw := wanted_ok (ops := ops) hI.env hgd hb
  unfold wpOp
  simp only [hi]
  cases b with
  | false =>
    rw [if_neg (by rw [hw]; simp)]
    simp only [cond_false, Option.some.injEq, Prod.mk.injEq] at h
    obtain ⟨_, rfl, rfl⟩ := h
    have hno : ∀ n k, mo.op ≠ .init n k := fun n k e => by
      unfold dstOk at hdst
      rw [e] at hdst
      simp only at hdst
      split at hdst
      · rename_i hg
        rw [hg] at hb
        simp [fwanted] at hb
      · cases hdst
    exact oper_skip hI hlt (dst_of hdst hno) hK
  | true =>
    rw [if_pos hw]
    left
    simp only [cond_true] at h
    split at h
    · rename_i k keep hmo
      unfold fInit at h
      split at h
      · rename_i s x hma
        split at h
        · rename_i z hz
          simp only [Option.bind_eq_some_iff, Option.map_eq_some_iff, Prod.mk.injEq] at h
          obtain ⟨⟨p, f1⟩, h1, ⟨r, m1⟩, h2, rfl, rfl, rfl⟩ := h
          simp only [core, Option.bind_eq_some_iff] at h2
          obtain ⟨cs, hcs, h2⟩ := h2
          obtain ⟨hl, h2⟩ := bif_some h2
          simp only [Bool.and_eq_true] at hl
          simp only [Option.some.injEq, Prod.mk.injEq] at h2
          obtain ⟨rfl, rfl⟩ := h2
          -- the model's operation
          have hshape : ∃ t s' y, o.op = .store t (.tmp s') y ∧ sizeOk P t k = true := by
            rw [hmo] at hop
            generalize o.op = oo at hop
            cases oo with
            | store t ad y =>
              cases ad with
              | tmp s' => exact ⟨t, s', y, rfl, hop⟩
              | _ => exact absurd hop Bool.false_ne_true
            | _ => exact absurd hop Bool.false_ne_true
          obtain ⟨t, s', y, hoo, hsz⟩ := hshape
          rw [hoo, hma, hmo] at hargs
          have hargs' : (opdOk (.tmp s') (.mv s) && (opdOk y x && true)) = true := hargs
          simp only [Bool.and_eq_true] at hargs'
          obtain rfl : s' = s := Nat.eq_of_beq_eq_true hargs'.1
          unfold dstOk at hdst
          rw [hmo] at hdst
          simp only at hdst
          split at hdst
          · rename_i d s2 rest hd1 hd2 hd3 _
            rw [hma] at hd3
            cases hd3
            obtain rfl : d = s' := Nat.eq_of_beq_eq_true hdst
            rw [hd2] at hK
            exact oper_init hoo hd1 hsz hI hc.glob hz hargs'.2.1 h1 hcs (Nat.eq_of_beq_eq_true hl.1) (Nat.eq_of_beq_eq_true hl.2) hK
          · cases hdst
        · cases h
      · cases h
    · rename_i z hmo
      split at h
      · simp only [Option.some.injEq, Prod.mk.injEq] at h
        obtain ⟨_, rfl, rfl⟩ := h
        rw [hmo] at hop
        have hshape : ∃ t, o.op = .alloc t ∧ zeroOk P t z = true := by
          generalize o.op = oo at hop
          cases oo with
          | alloc t => exact ⟨t, rfl, hop⟩
          | _ => exact absurd hop Bool.false_ne_true
        obtain ⟨t, hoo, hz⟩ := hshape
        exact oper_fresh hoo hz (dst_of hdst fun n k e => by rw [hmo] at e; cases e) hlt hI hK
      · cases h
    · rename_i op hni hnf
      simp only [Option.bind_eq_some_iff] at h
      obtain ⟨⟨ps, f1⟩, h1, ⟨r, m1⟩, h2, h⟩ := h
      obtain ⟨hf, h⟩ := bif_none h
      simp only [Option.some.injEq, Prod.mk.injEq] at h
      obtain ⟨rfl, rfl, rfl⟩ := h
      have hdo := dst_of hdst hni
      cases hcase : isCall mo.op with
      | false => exact oper_plain hop hcase hargs hdo hlt hI hc.glob h1 h2 hf hK
      | true =>
        have hoc : ∃ c, o.op = .call c ∧ callOk P c mo.op = true := by
          generalize hmo : mo.op = mm at hop hcase
          cases mm with
          | call =>
            generalize o.op = oo at hop
            cases oo with
            | call c => exact ⟨c, rfl, hop⟩
            | _ => exact absurd hop Bool.false_ne_true
          | clone =>
            generalize o.op = oo at hop
            cases oo with
            | call c => exact ⟨c, rfl, hop⟩
            | _ => exact absurd hop Bool.false_ne_true
          | init n k => exact absurd hmo (hni n k)
          | allocF z => exact absurd hmo (hnf z)
          | _ => cases hcase
        obtain ⟨c, hoo, hcok⟩ := hoc
        generalize hmo : mo.op = mm at hcase hcok hargs h2
        cases mm with
        | call => exact oper_call hoo hcok hargs hdo hlt hI hc.glob hc.calls hc.funs h1 h2 hf hK
        | clone fid sz obj => exact oper_clone hoo hcok hargs hdo hlt hI hc.glob (hcl _ _ _ hmo) h1 h2 hf hK
        | init n k => exact absurd hmo (hni n k)
        | allocF z => exact absurd hmo (hnf z)
        | _ => cases hcase

end
end Go.Ev

