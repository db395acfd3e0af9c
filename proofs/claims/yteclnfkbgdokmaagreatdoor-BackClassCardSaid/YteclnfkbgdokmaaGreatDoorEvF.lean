/- One of the texts that the proof of the law rests on: it has no condition of its own. -/
import Derived.Test.YteclnfkbgdokmaaGreatDoorEvG
import Derived.Laws.Cover3
import Derived.RowKit3
import Derived.Deep.Slices
import Derived.ChangeStays
import Derived.Lib.LaidTab
import Derived.LaidMore
import Derived.OpenShut
/- slices.Clone. -/
namespace Go.Ev

section
variable {P : Program}

theorem callOk_none {G : Code → MCode → Nat → Prop} : CallOk P G (fun _ => none) (fun _ _ _ => none) := fun _ _ _ _ _ _ h => by cases h
theorem only_none : OnlyFuncs (fun _ _ _ => none) := fun _ _ _ _ _ _ _ h => by cases h

theorem slice_shape {g : Gh} {p : PVal} {v : Value} (h : VR g p v) (hs : isSlice p = true) : ∃ a l c, v = .slice a l c := by
  cases p <;> simp [isSlice] at hs
  · obtain ⟨a, cap, e, _⟩ := h.inv_slice; exact ⟨_, _, _, e⟩
  · obtain ⟨a, cap, e, _⟩ := h.inv_oslice; exact ⟨_, _, _, e⟩

theorem nil_elems {g : Gh} {p : PVal} {m : Mem} {sz l c : Nat} {ys : List (List PVal)} (h : VR g p (.slice none l c)) (hs : isSlice p = true) (he : elems m sz p = some ys) : ys = [] := by
  cases p <;> simp [isSlice] at hs
  · rename_i xs c
    obtain ⟨a, cap, e, _, _, hfull⟩ := h.inv_slice
    have : xs = [] := by
      by_cases hxs : xs = []
      · exact hxs
      · obtain ⟨b, off, row, sz, vs, ha, _⟩ := hfull hxs
        rw [ha] at e; cases e
    subst this
    simp only [elems] at he
    obtain ⟨_, h2⟩ := bif_some he
    simpa using h2.symm
  · rename_i sz' id off l c
    obtain ⟨a, cap', e, h2, h3, b, _, hne, _⟩ := h.inv_oslice
    have hc0 : cap' = 0 := by
      by_cases hc0 : cap' = 0
      · exact hc0
      · have := hne hc0; rw [this] at e; cases e
    have hl0 : l = 0 := by omega
    subst hl0
    simp only [elems] at he
    obtain ⟨_, h2⟩ := bif_some he
    split at h2
    · obtain ⟨_, h4⟩ := bif_some h2
      simpa [pieces] using h4.symm
    · cases h2

theorem run_isNil {ρ : Operand → Value} {t e t' ty : TypeId} {x : Operand} {a : Option Addr} {l c : Nat} {pos : String} {after : Array Edge} {dst : Option Tmp} {w : World} (hu : P.underlying t = some (.slice e)) (hx : ρ x = .slice a l c) (hc : ∀ v, ρ (.const v) = v) :
    (execOp ρ ⟨dst, .binOp .eql t x (.const (.slice none 0 0)) t', ty, pos, after, none⟩).run P w = .ok (.value (.bool a.isNone)) w := by
  have h1 : (Op.equalIn 10000 t (.slice a l c) (.slice none 0 0)).run P w = .ok a.isNone w := by
    exact run_equalIn_slice_nil w 9999 t e a l c hu
  have hg : (eqGuard .eql t x (.const (.slice none 0 0)) (.slice a l c) (.slice none 0 0)).run P w = .ok () w := run_eqGuard_other _ _ _ _ _ _ (.inl (by simp)) (.inl (by simp))
  simp [execOp, hx, hc, hg, binOp, Op.equal, Op.maxDepth, h1]

theorem clone_at {f sz : Nat} {obj : Bool} {fn : Func} {t t' i0 i1 i2 i3 : Nat} {z : List PVal} {t0 : TypeId} {p0 : String} {xa0 : Array Edge} {t1 : TypeId} {p1 : String} {xa1 : Array Edge} {t2 : TypeId} {p2 : String} {xa2 : Array Edge} {t3 : TypeId} {p3 : String} {xa3 : Array Edge} {t4 : TypeId} {p4 : String} {xa4 : Array Edge} {t5 : TypeId} {p5 : String} {xa5 : Array Edge} {t6 : TypeId} {p6 : String} {xa6 : Array Edge} {t7 : TypeId} {p7 : String} {xa7 : Array Edge}
    (hx : P.funcs[f]? = some fn) (hb : fn.body = some (.seq (.region i0 #[⟨some 2, .assign (.const (.slice none 0 0)), t0, p0, xa0, none⟩] false) (.seq (.seq (.region i1 #[⟨some 3, .move (.tmp 0), t1, p1, xa1, none⟩, ⟨some 4, .binOp .eql t (.tmp 3) (.const (.slice none 0 0)) t', t2, p2, xa2, none⟩] false) (.cond (.tmp 4) (.seq (.region i2 #[⟨some 2, .assign (.const (.slice none 0 0)), t3, p3, xa3, none⟩] false) .ret) .skip)) (.seq (.region i3 #[⟨some 5, .buildSlice t 0 #[], t4, p4, xa4, none⟩, ⟨some 6, .move (.tmp 0), t5, p5, xa5, none⟩, ⟨some 7, .call { callee := .builtin .append, args := #[.tmp 5, .tmp 6], argTypes := #[t, t] }, t6, p6, xa6, none⟩, ⟨some 2, .assign (.tmp 7), t7, p7, xa7, none⟩] false) .ret))))
    (hr : fn.results = #[.tmp 2]) (hnt : fn.ntmps = 8) (hen : Enters P f) (happ : appOk P t sz = true) (hrow : rowOk P t z = true) (hzl : z.length = sz) : CloneAt P f sz obj := by
  refine ⟨hen, fun m y r m' call hcore g w v hw h1 hv => ?_⟩
  have hsrc : srcOk P t = true := by
    obtain ⟨e, i, v, hu, _⟩ := appOk_spec happ
    unfold srcOk; rw [hu]
  obtain ⟨e, inf, zv, hu, _⟩ := appOk_spec happ
  simp only [core] at hcore
  obtain ⟨hsl, hc1⟩ := bif_some hcore
  simp only [Option.bind_eq_some_iff] at hc1
  obtain ⟨ys, hys, hc2⟩ := hc1
  obtain ⟨hle, hc3⟩ := bif_some hc2
  simp only [Option.some.injEq] at hc3
  clear hcore hc2
  have hys1 : elems m sz y.nz1 = some ys := by cases y <;> first | exact hys | (simp [isSlice] at hsl)
  have hsl1 : isSlice y.nz1 = true := by cases y <;> first | rfl | (simp [isSlice] at hsl)
  have harg : Args g [y.nz1] [v] := .cons ⟨hv.nz1, OwnOk_nz1 _ _ _⟩ .nil
  have hz : ∀ b, clA [y.nz1] [v] b = 0 := fun b => by simp only [clA]; rw [clV_nz1]
  generalize hyy : y.nz1 = yy at hys1 hsl1 harg hz
  have hyf : yy.isFresh = false := by cases yy <;> first | rfl | (simp [isSlice] at hsl1)
  have e0 : #[v] = [v].toArray := rfl
  rw [e0]
  refine calls_of_wp hx hb ?_
  have hI := inv_start (k := fn.ntmps - [v].toArray.size) hw h1 harg hz
  have hsz : ([v].toArray ++ Array.replicate (fn.ntmps - [v].toArray.size) undef).size = 8 := by simp [hnt]
  generalize [v].toArray ++ Array.replicate (fn.ntmps - [v].toArray.size) undef = tm at hI hsz
  have hctx : Ctx P (fun _ => none) (fun _ _ _ => none) g := ⟨(fun _ _ h => by cases h), callOk_none, only_none⟩
  have hmk : ∀ (ops : List MOper), clonesOps ops = [] → ∀ mo, mo ∈ ops → ClonesAt P mo := fun ops h => clones_ops (by rw [h]; intro e he; cases he)
  -- what comes of the end
  have fin : ∀ (env : Env) (mm : Mem) (rr : PVal) (a' : Act) (g' : Gh) (w' : World) (Q : Exit), (Q = .normal ∨ Q = .ret) → env.ok → env.get 2 = some rr → rr.isFresh = false → (rr, cutFor m.next rr mm) = (r, m') → a'.defers = [] → Inv (clM g w m) g w env.get mm g' w' a'.tmps →
      bodyPost P fn (fun e w' => ∃ u g', e = .returned u ∧ Step (fun _ => 0) g w m r m' g' w' u) Q a' w' := by
    intro env mm rr a' g' w' Q hQ hok hg hf hcut hd hI'
    have hfin : finish ⟨.skip, [.tmp 2], true, false⟩ m.next ⟨env, mm⟩ = some (r, m') := by
      rw [← hcut]
      simp [finish, evRes, hg, hf, packRes]
    obtain ⟨u, g2, hres, hst⟩ := finish_ok (P := P) (x := fn) hI' hok (by rw [hr]; rfl) (by rw [← hw.len]; exact Nat.le_refl _) hfin
    have hb : a'.defers = [] ∧ ∃ v, (results fn a'.tmps).run P w' = .ok v w' ∧ (fun e w' => ∃ u g', e = Ending.returned u ∧ Step (fun _ => 0) g w m r m' g' w' u) (.returned v) w' := ⟨hd, u, hres, u, g2, rfl, hst⟩
    rcases hQ with rfl | rfl
    · exact hb
    · exact hb
  have henv : startEnv 0 [yy] = [(0, yy)] := by simp [startEnv, hyf]
  rw [henv] at hI
  -- the first assignment
  refine wp_seq ?_
  have s1 := region_text (P := P) (globs := fun _ => none) (call := fun _ _ _ => none) (C0 := clM g w m) (g0 := g) (w0 := w) (n := 8) (L := 0) (g := g) (w := w) (a := { tmps := tm, defers := [] }) (id := i0)
    (ops := #[⟨some 2, .assign (.const (.slice none 0 0)), t0, p0, xa0, none⟩]) (mos := [⟨some 2, .move, [.val (.slice [] .exact)], none⟩]) (conf := [])
    (Q := Exit.then (Code.wp P (.seq (.seq (.region i1 #[⟨some 3, .move (.tmp 0), t1, p1, xa1, none⟩, ⟨some 4, .binOp .eql t (.tmp 3) (.const (.slice none 0 0)) t', t2, p2, xa2, none⟩] false) (.cond (.tmp 4) (.seq (.region i2 #[⟨some 2, .assign (.const (.slice none 0 0)), t3, p3, xa3, none⟩] false) .ret) .skip)) (.seq (.region i3 #[⟨some 5, .buildSlice t 0 #[], t4, p4, xa4, none⟩, ⟨some 6, .move (.tmp 0), t5, p5, xa5, none⟩, ⟨some 7, .call { callee := .builtin .append, args := #[.tmp 5, .tmp 6], argTypes := #[t, t] }, t6, p6, xa6, none⟩, ⟨some 2, .assign (.tmp 7), t7, p7, xa7, none⟩] false) .ret)) (bodyPost P fn (fun e w' => ∃ u g', e = .returned u ∧ Step (fun _ => 0) g w m r m' g' w' u))) (bodyPost P fn (fun e w' => ∃ u g', e = .returned u ∧ Step (fun _ => 0) g w m r m' g' w' u)))
    (s := ⟨[(0, yy)], m⟩) (s' := ⟨[(2, .slice [] .exact), (0, yy)], m⟩) (x := .normal) rfl hctx (hmk _ rfl) rfl (by simp [Env.ok]) hI hsz
  refine s1.2.2 fun a1 g1 w1 hs1 hd1 hI1 => ?_
  have hs1 : a1.tmps.size = 8 := hs1.trans hsz
  have hd1 : a1.defers = [] := hd1
  clear s1
  -- is it nil?
  have hok1 : Env.ok [(2, PVal.slice [] .exact), (0, yy)] := by simp [Env.ok]
  refine wp_seq (wp_seq (wp_region ?_))
  show wpOps _ _ _ [0, 1] _ _
  rw [wpOps_cons]
  have hyn : (yy.nz).isFresh = false := by cases yy <;> first | rfl | (simp [isSlice] at hsl1)
  have hysn : elems m sz yy.nz = some ys := by cases yy <;> first | exact hys1 | (simp [isSlice] at hsl1)
  have hsln : isSlice yy.nz = true := by cases yy <;> first | rfl | (simp [isSlice] at hsl1)
  have hev1 : evOper (fun _ => none) (fun _ _ _ => none) ⟨some 3, .move, [.cp 0], none⟩ ⟨[(2, .slice [] .exact), (0, yy)], m⟩ = some ([yy.nz], ⟨[(3, yy.nz), (2, .slice [] .exact), (0, yy)], m⟩) := by
    clear hI harg hz
    cases yy <;> first | rfl | (simp [isSlice] at hsl1)
  obtain ⟨hf1, hok2⟩ := evOper_f hok1 hev1
  refine oper_ok (n := 8) (o := ⟨some 3, .move (.tmp 0), t1, p1, xa1, none⟩) (mo := ⟨some 3, .move, [.cp 0], none⟩) rfl hs1 hI1 hctx (fun _ _ _ h => by cases h) hf1 rfl fun a2 g2 w2 hs2 hd2 hI2 => ?_
  have hs2 : a2.tmps.size = 8 := hs2.trans hs1
  have hd2 : a2.defers = [] := hd2.trans hd1
  rw [wpOps_cons]
  obtain ⟨u3, hu3, hv3, _⟩ := hI2.env.get 3 yy.nz rfl
  obtain ⟨ad, len, cap, rfl⟩ := slice_shape hv3 hsln
  have hnil : ad = none → ys = [] := fun hn => by subst hn; exact nil_elems hv3 hsln hysn
  have hrun := run_isNil (P := P) (ρ := a2.eval) (t' := t') (ty := t2) (a := ad) (l := len) (c := cap) (x := .tmp 3) (pos := p2) (after := xa2) (dst := some 4) (w := w2) hu (by simp [Act.eval, hu3]) (fun v => rfl)
  unfold wpOp
  show (if _ then _ else _)
  rw [if_pos (by rfl)]
  left
  show Oper.wp (P := P) (o := ⟨some 4, .binOp .eql t (.tmp 3) (.const (.slice none 0 0)) t', t2, p2, xa2, none⟩) (a := a2) (w := w2) _ _
  unfold Oper.wp
  rw [hrun]
  have hI3 : Inv (clM g w m) g w (Env.get [(4, .bool ad.isNone), (3, yy.nz), (2, .slice [] .exact), (0, yy)]) m g2 w2 (a2.put (some 4) (.bool ad.isNone)).tmps := by
    have h0 : InvK (clM g w m) g w (Env.get [(3, yy.nz), (2, .slice [] .exact), (0, yy)]) m g2 w2 a2.tmps (clV (.bool ad.isNone) (.bool ad.isNone)) := hI2.toK.sub (fun _ _ e => e) fun b => by
      exact Nat.le_refl _
    have h4 := h0.put (.bool _) trivial rfl (some 4) (by rw [hs2]; rfl)
    have e4 := (putO_f hok2 (some 4) (.bool ad.isNone)).1
    rw [← e4] at h4
    exact h4
  have hs3 : (a2.put (some 4) (.bool ad.isNone)).tmps.size = 8 := (put_size _ _ _).trans hs2
  have hd3 : (a2.put (some 4) (.bool ad.isNone)).defers = [] := (put_defers _ _ _).trans hd2
  show (Code.cond _ _ _).wp P _ (a2.put (some 4) (.bool ad.isNone)) w2
  generalize a2.put (some 4) (.bool ad.isNone) = a3 at hI3 hs3 hd3
  have hok3 : Env.ok [(4, PVal.bool ad.isNone), (3, yy.nz), (2, PVal.slice [] .exact), (0, yy)] := by simp [Env.ok]
  obtain ⟨u4, hu4, hv4, _⟩ := hI3.env.get 4 _ rfl
  obtain rfl := hv4.inv_bool
  refine wp_cond (t := ad.isNone) (by simp [Act.eval, hu4]) ?_
  cases hb4 : ad.isNone with
  | true =>
    rw [hb4] at hI3 hok3
    have hys0 := hnil (by simpa using hb4)
    subst hys0
    refine wp_seq ?_
    have s2 := region_text (P := P) (globs := fun _ => none) (call := fun _ _ _ => none) (C0 := clM g w m) (g0 := g) (w0 := w) (n := 8) (L := 0) (g := g2) (w := w2) (a := a3) (id := i2)
      (ops := #[⟨some 2, .assign (.const (.slice none 0 0)), t3, p3, xa3, none⟩]) (mos := [⟨some 2, .move, [.val (.slice [] .exact)], none⟩]) (conf := [])
      (Q := Exit.then (Code.wp P .ret (Exit.then (Code.wp P (.seq (.region i3 #[⟨some 5, .buildSlice t 0 #[], t4, p4, xa4, none⟩, ⟨some 6, .move (.tmp 0), t5, p5, xa5, none⟩, ⟨some 7, .call { callee := .builtin .append, args := #[.tmp 5, .tmp 6], argTypes := #[t, t] }, t6, p6, xa6, none⟩, ⟨some 2, .assign (.tmp 7), t7, p7, xa7, none⟩] false) .ret) (bodyPost P fn (fun e w' => ∃ u g', e = .returned u ∧ Step (fun _ => 0) g w m r m' g' w' u))) (bodyPost P fn (fun e w' => ∃ u g', e = .returned u ∧ Step (fun _ => 0) g w m r m' g' w' u)))) (Exit.then (Code.wp P (.seq (.region i3 #[⟨some 5, .buildSlice t 0 #[], t4, p4, xa4, none⟩, ⟨some 6, .move (.tmp 0), t5, p5, xa5, none⟩, ⟨some 7, .call { callee := .builtin .append, args := #[.tmp 5, .tmp 6], argTypes := #[t, t] }, t6, p6, xa6, none⟩, ⟨some 2, .assign (.tmp 7), t7, p7, xa7, none⟩] false) .ret) (bodyPost P fn (fun e w' => ∃ u g', e = .returned u ∧ Step (fun _ => 0) g w m r m' g' w' u))) (bodyPost P fn (fun e w' => ∃ u g', e = .returned u ∧ Step (fun _ => 0) g w m r m' g' w' u))))
      (s := ⟨[(4, .bool true), (3, yy.nz), (2, .slice [] .exact), (0, yy)], m⟩) (s' := ⟨[(2, .slice [] .exact), (4, .bool true), (3, yy.nz), (0, yy)], m⟩) (x := .normal) rfl hctx (hmk _ rfl) rfl hok3 hI3 hs3
    refine s2.2.2 fun a4 g4 w4 hs4 hd4 hI4 => ?_
    refine wp_ret ?_
    refine fin _ _ (.slice [] .exact) a4 g4 w4 .ret (.inr rfl) s2.2.1 rfl rfl ?_ (hd4.trans hd3) hI4
    rw [← hc3]
    simp [cutFor]
  | false =>
    rw [hb4] at hI3 hok3
    refine wp_skip ?_
    refine wp_seq ?_
    obtain ⟨e5, i5, v5, hu5, hi5, hz5, hs5, hne5, _⟩ := appOk_spec happ
    have hz0 : z.length ≠ 0 := by rw [hzl]; exact hne5
    have hreg : regionOk P 8 #[⟨some 5, .buildSlice t 0 #[], t4, p4, xa4, none⟩, ⟨some 6, .move (.tmp 0), t5, p5, xa5, none⟩, ⟨some 7, .call { callee := .builtin .append, args := #[.tmp 5, .tmp 6], argTypes := #[t, t] }, t6, p6, xa6, none⟩, ⟨some 2, .assign (.tmp 7), t7, p7, xa7, none⟩] false
        [⟨some 5, .mkslice sz 0 z [] false, [], none⟩, ⟨some 6, .move, [.mv 0], none⟩, ⟨some 7, .append sz obj, [.mv 5, .mv 6], none⟩, ⟨some 2, .move, [.mv 7], none⟩] [] = true := by
      have a1 : opOk P (.buildSlice t 0 #[]) (.mkslice sz 0 z [] false) = true := by
        simp [opOk, hrow, hzl]
      have a2 : opOk P (.call { callee := .builtin .append, args := #[.tmp 5, .tmp 6], argTypes := #[t, t] }) (.append sz obj) = true := by
        simp [opOk, callOk, happ, hsrc]
      have b1 : operOk P 8 #[⟨some 5, .buildSlice t 0 #[], t4, p4, xa4, none⟩, ⟨some 6, .move (.tmp 0), t5, p5, xa5, none⟩, ⟨some 7, .call { callee := .builtin .append, args := #[.tmp 5, .tmp 6], argTypes := #[t, t] }, t6, p6, xa6, none⟩, ⟨some 2, .assign (.tmp 7), t7, p7, xa7, none⟩] ⟨some 5, .buildSlice t 0 #[], t4, p4, xa4, none⟩ ⟨some 5, .mkslice sz 0 z [] false, [], none⟩ = true := by
        simp only [operOk, a1, Bool.and_true]; rfl
      have b2 : operOk P 8 #[⟨some 5, .buildSlice t 0 #[], t4, p4, xa4, none⟩, ⟨some 6, .move (.tmp 0), t5, p5, xa5, none⟩, ⟨some 7, .call { callee := .builtin .append, args := #[.tmp 5, .tmp 6], argTypes := #[t, t] }, t6, p6, xa6, none⟩, ⟨some 2, .assign (.tmp 7), t7, p7, xa7, none⟩] ⟨some 7, .call { callee := .builtin .append, args := #[.tmp 5, .tmp 6], argTypes := #[t, t] }, t6, p6, xa6, none⟩ ⟨some 7, .append sz obj, [.mv 5, .mv 6], none⟩ = true := by
        simp only [operOk, a2, Bool.and_true]; rfl
      simp only [regionOk, opersOk, b1, b2, Bool.true_and, Bool.and_true, cond_false]
      rfl
    have hcoreA : ∃ q2 m2, core (fun _ _ _ => none) (.append sz obj) [.slice [] .exact, yy] m = some (q2, m2) ∧ (q2, m2) = (r, m') ∧ q2.isFresh = false ∧ cutFor m.next q2 m2 = m2 := by
      cases hye : ys.isEmpty with
      | true =>
        rw [hye] at hc3
        simp only [cond_true] at hc3
        refine ⟨.slice [] .exact, m, by simp [core, hys1, hye, isSlice], hc3, rfl, by simp [cutFor]⟩
      | false =>
        rw [hye] at hc3
        simp only [cond_false] at hc3
        cases obj with
        | true =>
          simp only [cond_true] at hc3
          refine ⟨_, _, by simp [core, hys1, hye, headSz, hle], hc3, rfl, ?_⟩
          have h1 : (m.push (.cells (ys.flatten.map PVal.nz0))).next.beq m.next = false := by
            cases h : (m.push (.cells (ys.flatten.map PVal.nz0))).next.beq m.next with
            | false => rfl
            | true => have := Nat.eq_of_beq_eq_true h; simp [Mem.push] at this
          have h2 : (PVal.oslice sz m.next 0 ys.length ys.length).under m.next = false := by
            show Nat.blt m.next m.next = false
            cases h : Nat.blt m.next m.next with
            | false => rfl
            | true => exact absurd (show m.next < m.next by rw [← Nat.blt_eq]; exact h) (Nat.lt_irrefl _)
          simp [cutFor, h2]
        | false =>
          simp only [cond_false] at hc3
          refine ⟨_, _, by simp [core, hys1, hye, headSz, hle], hc3, rfl, by simp [cutFor]⟩
    obtain ⟨q2, m2, hcA, hqm, hqf, hcut⟩ := hcoreA
    have hmkc : core (fun _ _ _ => none) (.mkslice sz 0 z [] false) [] m = some (.slice [] .exact, m) := by
      simp [core, setParts]
    have hev : evOps (fun _ => none) (fun _ _ _ => none) [⟨some 5, .mkslice sz 0 z [] false, [], none⟩, ⟨some 6, .move, [.mv 0], none⟩, ⟨some 7, .append sz obj, [.mv 5, .mv 6], none⟩, ⟨some 2, .move, [.mv 7], none⟩]
        ⟨[(4, .bool false), (3, yy.nz), (2, .slice [] .exact), (0, yy)], m⟩ = some ⟨[(2, q2), (4, .bool false), (3, yy.nz)], m2⟩ := by
      have s1 : evOper (fun _ => none) (fun _ _ _ => none) ⟨some 5, .mkslice sz 0 z [] false, [], none⟩ ⟨[(4, .bool false), (3, yy.nz), (2, .slice [] .exact), (0, yy)], m⟩ = some ([], ⟨[(5, .slice [] .exact), (4, .bool false), (3, yy.nz), (2, .slice [] .exact), (0, yy)], m⟩) := by
        simp only [evOper, wanted, Option.bind_some, cond_true, opds, hmkc]; rfl
      have s2 : evOper (fun _ => none) (fun _ _ _ => none) ⟨some 6, .move, [.mv 0], none⟩ ⟨[(5, .slice [] .exact), (4, .bool false), (3, yy.nz), (2, .slice [] .exact), (0, yy)], m⟩ = some ([yy], ⟨[(6, yy), (5, .slice [] .exact), (4, .bool false), (3, yy.nz), (2, .slice [] .exact)], m⟩) := by
        clear hI3 hok3 hI2 hI1 hI harg hz hev1 hf1 hcA hmkc
        cases yy <;> first | rfl | (simp [isSlice] at hsl1)
      have s3 : evOper (fun _ => none) (fun _ _ _ => none) ⟨some 7, .append sz obj, [.mv 5, .mv 6], none⟩ ⟨[(6, yy), (5, .slice [] .exact), (4, .bool false), (3, yy.nz), (2, .slice [] .exact)], m⟩ = some ([.slice [] .exact, yy], ⟨[(7, q2), (4, .bool false), (3, yy.nz), (2, .slice [] .exact)], m2⟩) := by
        have o1 : opds (fun _ => none) [.mv 5, .mv 6] [(6, yy), (5, .slice [] .exact), (4, .bool false), (3, yy.nz), (2, .slice [] .exact)] = some ([.slice [] .exact, yy], [(4, .bool false), (3, yy.nz), (2, .slice [] .exact)]) := by
          clear hI3 hok3 hI2 hI1 hI harg hz hev1 hf1 hcA hmkc
          cases yy <;> first | rfl | (simp [isSlice] at hsl1)
        simp only [evOper, wanted, Option.bind_some, cond_true, o1, hcA, hqf, cond_false]; rfl
      have s4 : evOper (fun _ => none) (fun _ _ _ => none) ⟨some 2, .move, [.mv 7], none⟩ ⟨[(7, q2), (4, .bool false), (3, yy.nz), (2, .slice [] .exact)], m2⟩ = some ([q2], ⟨[(2, q2), (4, .bool false), (3, yy.nz)], m2⟩) := by
        have o1 : opds (fun _ => none) [.mv 7] [(7, q2), (4, .bool false), (3, yy.nz), (2, .slice [] .exact)] = some ([q2], [(4, .bool false), (3, yy.nz), (2, .slice [] .exact)]) := by
          have : opd (fun _ => none) (.mv 7) [(7, q2), (4, .bool false), (3, yy.nz), (2, .slice [] .exact)] = some (q2, [(4, .bool false), (3, yy.nz), (2, .slice [] .exact)]) := by
            have hg : Env.get [(7, q2), (4, .bool false), (3, yy.nz), (2, .slice [] .exact)] 7 = some q2 := rfl
            simp only [opd, hg, Option.bind_some, hqf, cond_false]; rfl
          simp only [opds, this, Option.bind_some]; rfl
        simp only [evOper, wanted, Option.bind_some, cond_true, o1, core, hqf, cond_false]; rfl
      simp only [evOps, s1, s2, s3, s4, Option.bind_some]
    have s3 := region_text (P := P) (globs := fun _ => none) (call := fun _ _ _ => none) (C0 := clM g w m) (g0 := g) (w0 := w) (n := 8) (L := 0) (g := g2) (w := w2) (a := a3) (id := i3)
      (Q := Exit.then (Code.wp P .ret (bodyPost P fn (fun e w' => ∃ u g', e = .returned u ∧ Step (fun _ => 0) g w m r m' g' w' u))) (bodyPost P fn (fun e w' => ∃ u g', e = .returned u ∧ Step (fun _ => 0) g w m r m' g' w' u)))
      (s := ⟨[(4, .bool false), (3, yy.nz), (2, .slice [] .exact), (0, yy)], m⟩) (s' := ⟨[(2, q2), (4, .bool false), (3, yy.nz)], m2⟩) (x := .normal) hreg hctx (hmk _ rfl) (by simp only [evCode, hev]; rfl) hok3 hI3 hs3
    refine s3.2.2 fun a4 g4 w4 hs4 hd4 hI4 => ?_
    refine wp_ret ?_
    refine fin _ _ q2 a4 g4 w4 .ret (.inr rfl) s3.2.1 rfl hqf ?_ (hd4.trans hd3) hI4
    rw [hcut]; exact hqm

end
end Go.Ev

/- From the world that a law is called in, and back. -/
namespace Go.Ev
open Go.RowKit

/-- All that lies in the world is told, and stays. -/
def ghW (w : World) : Gh := ⟨[], fun b => match w.heap[b]? with | some (.cells c el _) => some ⟨c.toList, c.size, el, false⟩ | _ => none, fun _ => 0, fun _ _ _ => True⟩

theorem ghW_lg {w : World} {b : Nat} {c : Array Value} {el : TypeId} {fz : Nat × Nat} (h : w.heap[b]? = some (.cells c el fz)) : (ghW w).lg b = some ⟨c.toList, c.size, el, false⟩ := by
  simp [ghW, h]

theorem wiW (w : World) : WI (ghW w) w ⟨0, [], []⟩ where
  lg := fun b row e => by
    unfold ghW at e
    simp only at e
    split at e
    · rename_i c el fz hc
      cases e
      exact ⟨c, fz, hc, rfl, List.prefix_refl _, fun h => by cases h⟩
    · cases e
  len := rfl
  sorted := .nil
  bound := fun e h => by cases h
  obj := fun _ _ h => by cases h
  inj := fun _ _ _ _ _ h => by cases h
  scope := fun _ _ h => by cases h
  phi := fun id b h => by simp [ghW] at h
  bsz := fun id b h => by simp [ghW] at h

theorem grown_of {W w' : World} {m' : Mem} {r : PVal} {g' : Gh} {v : Value} {R : Code → MCode → Nat → Prop} (h : Step (fun _ => 0) ⟨(ghW W).φ, (ghW W).lg, (ghW W).bs, R⟩ W ⟨0, [], []⟩ r m' g' w' v) : (∀ b, b < W.heap.size → w'.heap[b]? = W.heap[b]?) ∧ Grown W w' := by
  have hk : ∀ b, b < W.heap.size → w'.heap[b]? = W.heap[b]? := fun b hb => h.keepBlk b hb rfl fun id => by simp [ghW]
  refine ⟨hk, ⟨h.os.1, h.os.2.1, fun i hi => ?_⟩, fun a => ?_, h.size⟩
  · rw [hk i hi]
    cases W.heap[i]? with
    | none => rfl
    | some o => cases o <;> simp
  · by_cases hb : a.block < W.heap.size
    · simp only [World.frozen?, hk _ hb]
    · have hW : W.heap[a.block]? = none := by simp; omega
      simp only [World.frozen?, hW]
      split
      · rename_i c el lo hi hc
        rcases h.fresh _ _ _ _ hc with ⟨c0, h0⟩ | ⟨_, h0⟩
        · rw [hW] at h0; cases h0
        · cases h0; simp
      · rfl

section
variable {P : Program} {globs : Nat → Option (List PVal)} {tab : Nat → Option MFunc} {ext : Nat → Option (List PVal → Mem → Option (PVal × Mem))} {L : Nat}

/-- The same, with which code the loops' rounds may be. -/
def ghP (P : Program) (w : World) : Gh := ⟨(ghW w).φ, (ghW w).lg, (ghW w).bs, Good P⟩

theorem VR.setR {g : Gh} {R : Code → MCode → Nat → Prop} {p : PVal} {v : Value} (h : VR g p v) : VR ⟨g.φ, g.lg, g.bs, R⟩ p v := by
  induction h with
  | bool b => exact .bool b
  | int k n => exact .int k n
  | str s => exact .str s
  | ptr e => exact .ptr e
  | eptr vs hl hf hc _ ih => exact .eptr vs hl hf hc ih
  | nilptr => exact .nilptr
  | slice0 h => exact .slice0 h
  | slice sz vs hne hl hcap hex hsz hc _ ih => exact .slice sz vs hne hl hcap hex hsz hc ih
  | oslice h1 h2 h3 => exact .oslice h1 h2 h3
  | map e => exact .map e
  | nilmap => exact .nilmap
  | func hl hc _ ih => exact .func hl hc ih
  | nilfunc => exact .nilfunc
  | iface hf _ ih => exact .iface hf ih
  | niliface => exact .niliface
  | yield e => exact .yield e
  | fresh => exact .fresh
  | agg hl hc _ ih => exact .agg hl hc ih
  | tuple hl _ ih => exact .tuple hl ih

theorem wiP (w : World) : WI (ghP P w) w ⟨0, [], []⟩ where
  lg := (wiW w).lg
  len := rfl
  sorted := .nil
  bound := fun e h => by cases h
  obj := fun _ _ h => by cases h
  inj := fun _ _ _ _ _ h => by cases h
  scope := fun _ _ h => by cases h
  phi := fun id b h => by simp [ghP, ghW] at h
  bsz := fun id b h => by simp [ghP, ghW] at h

/-- The law's call. -/
theorem law_calls (ht : TabOk P globs tab ext) {k f : Nat} {ps : List PVal} {m' : Mem} (h : evFn globs tab ext L k (.func f []) ps ⟨0, [], []⟩ = some (.bool true, m')) {W : World} {vs : List Value}
    (hg : GlobOk globs (ghW W)) (ha : Args (ghW W) ps vs) (hz : ∀ b, clA ps vs b = 0) :
    Calls P f vs.toArray W fun e w' => e = .returned (.bool true) ∧ (∀ b, b < W.heap.size → w'.heap[b]? = W.heap[b]?) ∧ Grown W w' := by
  obtain ⟨_, hc⟩ := (evFn_ok ht k).1 f [] ps ⟨0, [], []⟩ (.bool true) m' h
  have ha' : Args (ghP P W) ps vs := by
    clear h hz hc
    induction ha with
    | nil => exact .nil
    | cons h1 _ ih => exact .cons ⟨h1.vr.setR, h1.ok⟩ ih
  have h1 := hc (ghP P W) W vs #[] rfl (wiP W) (fun i cs e => (hg i cs e).setR) (fun b => Nat.zero_le _) ha' hz (.func rfl (fun i c h => by simp at h) (fun i c h => by simp at h))
  have e : vs.toArray ++ #[] = vs.toArray := by simp
  rw [e] at h1
  refine h1.mono fun e w' ⟨v, g', he, hs⟩ => ?_
  have hv := hs.vr.inv_bool
  subst hv
  exact ⟨he, grown_of hs⟩

end

/-- Cells that are read, and what the evaluator has for them. -/
def Rd (W : World) (Q : List PVal → Prop) (cs : List Value) : Prop :=
  ∃ ps : List PVal, ps.length = cs.length ∧ Q ps ∧ (∀ p, p ∈ ps → p.flat = true) ∧ ∀ (j : Nat) p, ps[j]? = some p → ∃ v, cs[j]? = some v ∧ VR (ghW W) p v

theorem Rd.append {W : World} {Q Q' : List PVal → Prop} {cs ds : List Value} (h : Rd W Q cs) (h' : Rd W Q' ds) : Rd W (fun ps => ∃ a b, ps = a ++ b ∧ Q a ∧ Q' b) (cs ++ ds) := by
  obtain ⟨a, la, qa, fa, ga⟩ := h
  obtain ⟨b, lb, qb, fb, gb⟩ := h'
  refine ⟨a ++ b, by simp [la, lb], ⟨a, b, rfl, qa, qb⟩, fun p hp => ?_, fun j p hj => ?_⟩
  · rcases List.mem_append.1 hp with h | h
    · exact fa p h
    · exact fb p h
  · by_cases hl : j < a.length
    · rw [List.getElem?_append_left hl] at hj
      rw [List.getElem?_append_left (by omega)]
      exact ga j p hj
    · rw [List.getElem?_append_right (by omega)] at hj
      rw [List.getElem?_append_right (by omega), ← la]
      exact gb _ p hj

theorem Rd.imp {W : World} {Q Q' : List PVal → Prop} {cs : List Value} (h : Rd W Q cs) (hq : ∀ ps, Q ps → Q' ps) : Rd W Q' cs := by
  obtain ⟨ps, a, b, c, d⟩ := h
  exact ⟨ps, a, hq ps b, c, d⟩

section
variable {H : Type} {enc : TypeId × Value → H} {P : Program} {W : World} {fuel : Nat} {t : TypeId} {cs : List Value} {x : DataW H × List MemPlace}

theorem rd_int {k : IntKind} (ht : P.underlying t = some (.int k)) (h : DataW.trod enc P W 0 (fun _ => true) true fuel t cs = some x) : Rd W (fun ps => ∃ n, ps = [.int k n] ∧ (Lit.int k n).wf = true) cs := by
  obtain ⟨n, rfl, _, hw⟩ := DataW.trod_int ht h
  refine ⟨[.int k n], rfl, ⟨n, rfl, hw⟩, fun p hp => ?_, fun j p hj => ?_⟩
  · simp at hp; subst hp; rfl
  · cases j with
    | zero => simp at hj; subst hj; exact ⟨_, rfl, .int _ _⟩
    | succ j => simp at hj

theorem cells_mem {w : World} {a : Addr} {n : Nat} {l : List Value} (h : w.cells? 0 a n = some l) : l.length = n ∧ ∀ j, j < n → w.cell? (a.add j) = l[j]? := by
  unfold World.cells? at h
  rw [if_pos (Nat.zero_le _)] at h
  exact ⟨by rw [mapM_some_length h]; simp, fun j hj => mapM_some_get h j j (by simp [hj])⟩

/-- A row that is read. -/
theorem rd_slice {e : TypeId} {Q : DataW H → List PVal → Prop} (ht : P.underlying t = some (.slice e)) (hsz : P.cellsOf e ≠ 0)
    (he : ∀ fuel cs x, DataW.trod enc P W 0 (fun _ => true) true fuel e cs = some x → Rd W (Q x.1) cs)
    (h : DataW.trod enc P W 0 (fun _ => true) true fuel t cs = some x) : Rd W (fun ps => ∃ xs, ps = [.slice xs .no] ∧ ((x.1 = .nil ∧ xs = []) ∨ ∃ ds rest, x.1 = .slice ds rest ∧ ds.length = xs.length ∧ ∀ (i : Nat) y, xs[i]? = some y → ∃ d, ds[i]? = some d ∧ Q d y)) cs := by
  rcases Deep.open_slice ht h with ⟨rfl, hx0⟩ | ⟨a, len, cap, m, n, D, Pl, rfl, _, hlen, _, hm, hx0, hel⟩
  · refine ⟨[.slice [] .no], rfl, ⟨[], rfl, .inl ⟨by rw [hx0], rfl⟩⟩, fun p hp => by simp at hp; subst hp; rfl, fun j p hj => ?_⟩
    cases j with
    | zero => simp at hj; subst hj; exact ⟨_, rfl, .slice0 (by simp)⟩
    | succ j => simp at hj
  · simp only [if_true] at hm
    subst hm
    have hall : ∀ i, i < len → ∃ (ps : List PVal), ps.length = P.cellsOf e ∧ Q (D i) ps ∧ (∀ p, p ∈ ps → p.flat = true) ∧ ∀ (j : Nat) p, ps[j]? = some p → ∃ v, W.cell? ((a.add (i * P.cellsOf e)).add j) = some v ∧ VR (ghW W) p v := fun i hi => by
      obtain ⟨cs', hc, htr⟩ := hel i (by omega)
      obtain ⟨hl, hg⟩ := cells_mem hc
      obtain ⟨ps, h1, h2, h3, h4⟩ := he _ _ _ htr
      refine ⟨ps, by omega, h2, h3, fun j p hj => ?_⟩
      obtain ⟨v, hv, hvr⟩ := h4 j p hj
      have hjl := (List.getElem?_eq_some_iff.1 hj).1
      exact ⟨v, by rw [hg j (by omega)]; exact hv, hvr⟩
    obtain ⟨X, hX⟩ := Deep.choose_lt hall
    refine ⟨[.slice ((List.range len).map X) .no], rfl, ⟨_, rfl, .inr ⟨_, _, by rw [hx0], by simp, fun i y hy => ?_⟩⟩, fun p hp => by simp at hp; subst hp; rfl, fun j p hj => ?_⟩
    · rw [List.getElem?_map] at hy
      have hil : i < len := by
        have := (List.getElem?_eq_some_iff.1 (show ((List.range len).map X)[i]? = some y by rw [List.getElem?_map]; exact hy)).1
        simpa using this
      rw [List.getElem?_range hil] at hy
      simp at hy
      subst hy
      exact ⟨D i, by simp [hil], (hX i hil).2.1⟩
    · cases j with
      | succ j => simp at hj
      | zero =>
        simp at hj
        subst hj
        refine ⟨_, rfl, ?_⟩
        by_cases hl0 : len = 0
        · subst hl0
          exact .slice0 (by simp)
        · have hXg : ∀ (i : Nat) x, ((List.range len).map X)[i]? = some x → i < len ∧ x = X i := fun i x hi => by
            rw [List.getElem?_map] at hi
            by_cases hil : i < len
            · rw [List.getElem?_range hil] at hi
              simp at hi
              exact ⟨hil, hi.symm⟩
            · have : (List.range len)[i]? = none := by simp; omega
              rw [this] at hi; cases hi
          -- the block
          obtain ⟨h1, _, _, h4⟩ := hX 0 (by omega)
          obtain ⟨v0, hv0, _⟩ := h4 0 (X 0)[0] (by simp)
          have hblk : ∃ c el fz, W.heap[a.block]? = some (.cells c el fz) ∧ a.spot = none := by
            have hadd : ((a.add (0 * P.cellsOf e)).add 0).block = a.block ∧ ((a.add (0 * P.cellsOf e)).add 0).spot = a.spot := by simp [Addr.add]
            unfold World.cell? at hv0
            rw [hadd.1, hadd.2] at hv0
            split at hv0
            · rename_i c el fz hc
              refine ⟨c, el, fz, hc, ?_⟩
              cases hs : a.spot with
              | none => rfl
              | some s => rw [hs] at hv0; simp at hv0
            · cases hv0
          obtain ⟨c, el, fz, hc, hs⟩ := hblk
          have ha : a = ⟨a.block, a.off, none⟩ := by cases a; simp at hs; subst hs; rfl
          rw [ha] at hX ⊢
          have hcell : ∀ i, i < len → ∀ (j : Nat) p, (X i)[j]? = some p → ∃ v, c.toList[a.off + i * P.cellsOf e + j]? = some v ∧ VR (ghW W) p v := fun i hi j p hj => by
            obtain ⟨v, hv, hvr⟩ := (hX i hi).2.2.2 j p hj
            rw [add_plain, add_plain, cell_of_heap hc] at hv
            exact ⟨v, by simpa using hv, hvr⟩
          have hlenX : ((List.range len).map X).length = len := by simp
          have := VR.slice (g := ghW W) (xs := (List.range len).map X) (c := .no) (b := a.block) (off := a.off) (cap := m) (row := ⟨c.toList, c.size, el, false⟩) (P.cellsOf e)
            (fun i j => c.toList.getD (a.off + i * P.cellsOf e + j) undef) (by intro h0; rw [h0] at hlenX; simp at hlenX; omega) (ghW_lg hc) (by omega) (by simp)
            (fun x hx => by
              obtain ⟨i, hi, rfl⟩ := List.mem_map.1 hx
              obtain ⟨h1, _, h3, _⟩ := hX i (by simpa using hi)
              exact ⟨h1, h3⟩)
            (fun i x j p hi hj => by
              obtain ⟨hil, rfl⟩ := hXg i x hi
              obtain ⟨v, hv, _⟩ := hcell i hil j p hj
              show c.toList[_]? = _
              rw [hv]; simp [List.getD, hv])
            (fun i x j p hi hj => by
              obtain ⟨hil, rfl⟩ := hXg i x hi
              obtain ⟨v, hv, hvr⟩ := hcell i hil j p hj
              have : c.toList.getD (a.off + i * P.cellsOf e + j) undef = v := by simp [List.getD, hv]
              rw [this]; exact hvr)
          rw [hlenX] at this
          exact this


/-- The fields of a struct, one behind the other. -/
theorem rd_fields {fs : Array Field} {x : DataW H × List MemPlace} (ht : P.underlying t = some (.struct fs)) (h : DataW.trod enc P W 0 (fun _ => true) true fuel t cs = some x) :
    cs.length = P.cellsOf t ∧ ∃ xs : List (DataW H × List MemPlace), x.1 = .agg (xs.map (·.1)) ∧ xs.length = fs.size ∧ ∃ n, ∀ (i : Nat) (f : Field), fs[i]? = some f → DataW.trod enc P W 0 (fun _ => true) true n f.type ((cs.drop f.offset).take (P.cellsOf f.type)) = xs[i]? := by
  obtain ⟨xs, n, _, rfl, hl, hxl, hg⟩ := DataW.trod_struct ht h
  exact ⟨hl, xs, rfl, hxl, n, hg⟩

end

/-- A table that lies in the world. -/
theorem glob_vr {P : Program} {W : World} {name : String} {k : IntKind} {zs : List Int} {g : Nat} (h : Lib.TabIs P W name k zs) (hg : P.globalNamed name = some g) (hne : zs ≠ []) : VR (ghW W) (.eptr (zs.map fun z => .int k z)) (.pointer (some ⟨g, 0, none⟩)) := by
  have hlen : 0 < zs.length := List.length_pos_iff.2 hne
  have h0 := h.cell hg 0 hlen
  have hblk : ∃ c el fz, W.heap[g]? = some (.cells c el fz) := by
    unfold World.cell? at h0
    split at h0
    · rename_i c el fz hc; exact ⟨c, el, fz, hc⟩
    · cases h0
  obtain ⟨c, el, fz, hc⟩ := hblk
  have hcell : ∀ i, i < zs.length → c.toList[i]? = some (.int k (zs.getD i 0)) := fun i hi => by
    have := h.cell hg i hi
    rw [cell_of_heap hc] at this
    simpa using this
  refine .eptr (row := ⟨c.toList, c.size, el, false⟩) (fun j => .int k (zs.getD j 0)) (ghW_lg hc) (fun p hp => ?_) (fun j p hj => ?_) fun j p hj => ?_
  · obtain ⟨z, _, rfl⟩ := List.mem_map.1 hp; rfl
  · have hjl : j < zs.length := by have := (List.getElem?_eq_some_iff.1 hj).1; simpa using this
    show c.toList[0 + j]? = _
    rw [Nat.zero_add]; exact hcell j hjl
  · have hjl : j < zs.length := by have := (List.getElem?_eq_some_iff.1 hj).1; simpa using this
    rw [List.getElem?_map, List.getElem?_eq_getElem hjl] at hj
    simp at hj
    subst hj
    have : zs.getD j 0 = zs[j] := by simp [List.getD, hjl]
    rw [this]; exact .int _ _

/-- Arguments that are read, read again where all that lay there lies. -/
theorem trod_again {H : Type} {enc : TypeId × Value → H} {P : Program} {W W' : World} (hl : laidOutB P = true) (hm : mapsRowed P = true) (hz : ∀ t e, t < P.types.size → P.underlying t = some (.slice e) → 0 < P.cellsOf e)
    (hk : ∀ b, b < W.heap.size → W'.heap[b]? = W.heap[b]?) {sp : Nat → Bool} : ∀ {ts : List TypeId} {vs : List Value} {ds : List (DataW H)} {ps : List MemPlace}, (∀ t, t ∈ ts → t < P.types.size) →
    DataW.TrodAll enc P W 0 (fun _ => true) true ts vs ds ps → (∀ p, p ∈ ps → sp p.block = true) → DataW.TrodAll enc P W' 0 sp true ts vs ds ps
  | [], [], [], ps, _, h, _ => h
  | [], [], _ :: _, ps, _, h, _ => by exact h.elim
  | [], _ :: _, _, ps, _, h, _ => by exact h.elim
  | _ :: _, [], _, ps, _, h, _ => by exact h.elim
  | _ :: _, _ :: _, [], ps, _, h, _ => by exact h.elim
  | t :: ts, v :: vs, d :: ds, ps, hT, ⟨p, q, ⟨n, h1⟩, h2, e⟩, hs => by
    refine ⟨p, q, ⟨n, ?_⟩, trod_again hl hm hz hk (fun t ht => hT t (List.mem_cons_of_mem _ ht)) h2 (fun x hx => hs x (by rw [e]; exact List.mem_append_right _ hx)), e⟩
    refine DataW.trod_stays (kids_rows hl hm) (fun ht hu => hz _ _ ht hu) (fun h => by cases h) (hT t List.mem_cons_self) h1 (fun x hx => ?_) fun x hx => hs x (by rw [e]; exact List.mem_append_left _ hx)
    have hlt := DataW.trod_lt n t _ _ h1 x hx
    cases x with
    | cell b off => simp only [World.sameAt, World.cell?, hk b hlt]
    | map b => exact hk b hlt

end Go.Ev

/- A table of two numbers that is a struct. -/
namespace Go.Ev

theorem tabIs_struct2 {P : Program} {W : World} {name : String} {k : IntKind} {a b : Int} {rest : List (String × DataW Unit)} {g t : Nat} {f0 f1 : Field}
    (hg : P.globalNamed name = some g) (hty : (P.globals[g]?).map (·.type) = some t) (ht : P.underlying t = some (.struct #[f0, f1])) (o0 : f0.offset = 0) (o1 : f1.offset = 1) (u0 : P.underlying f0.type = some (.int k)) (u1 : P.underlying f1.type = some (.int k))
    (c0 : P.cellsOf f0.type = 1) (c1 : P.cellsOf f1.type = 1) (ct : P.cellsOf t = 2) (h : laidMet P ((name, Lib.tabData k [a, b]) :: rest) W) : Lib.TabIs P W name k [a, b] := by
  obtain ⟨ps, ⟨g', t', cs, fuel, p, q, hg', ht', hvar, hd, _, _⟩, _⟩ := h
  obtain rfl := Option.some.inj (hg.symm.trans hg')
  obtain rfl := Option.some.inj (hty.symm.trans ht')
  obtain ⟨xs, n, _, hx, hl, hxl, hget⟩ := DataW.trod_struct ht hd
  have h0 := hget 0 f0 rfl
  have h1 := hget 1 f1 rfl
  rw [o0, c0] at h0
  rw [o1, c1] at h1
  rw [ct] at hl
  have hxl : xs.length = 2 := by simpa using hxl
  have hm : xs.map (·.1) = [.lit (.int k a), .lit (.int k b)] := by
    have := congrArg Prod.fst hx
    simp only [Lib.tabData] at this
    injection this with e
    exact e.symm
  obtain ⟨x0, x1, rfl⟩ : ∃ x0 x1, xs = [x0, x1] := by
    match xs, hxl with
    | [x0, x1], _ => exact ⟨x0, x1, rfl⟩
  simp only [List.map_cons, List.map_nil, List.cons.injEq, and_true] at hm
  obtain ⟨n0, e0, ex0, _⟩ := DataW.trod_int u0 (x := x0) (by simpa using h0)
  obtain ⟨n1, e1, ex1, _⟩ := DataW.trod_int u1 (x := x1) (by simpa using h1)
  rw [ex0] at hm
  rw [ex1] at hm
  simp only [DataW.lit.injEq, Lit.int.injEq, true_and] at hm
  obtain ⟨rfl, rfl⟩ := hm
  unfold Lib.TabIs
  rw [hvar]
  congr 1
  have : cs.toList = [.int k n0, .int k n1] := by
    match hcs : cs.toList, hl with
    | [v0, v1], _ =>
      rw [hcs] at e0 e1
      simp at e0 e1
      rw [e0, e1]
  apply Array.ext'
  simpa using this

def entersB (P : Program) (f : Nat) : Bool := match P.funcs[f]? with | some fn => !(fn.name == "runtime.NumGoroutine") && !fn.body.isNone | none => false
def chkFn (P : Program) (tab : Nat → Option MFunc) (clonesL : List (Nat × Nat × Bool)) (f : Nat) : Bool :=
  match tab f with | some fn => fnOkM P f fn && entersB P f && (clonesOf fn.body).all (fun e => clonesL.any fun d => e.1.beq d.1 && e.2.1.beq d.2.1 && (e.2.2 == d.2.2)) | none => true

theorem enters_of {P : Program} {f : Nat} (h : entersB P f = true) : Enters P f := by
  unfold entersB at h
  split at h
  · rename_i fn hf
    simp only [Bool.and_eq_true, Bool.not_eq_true'] at h
    exact ⟨fn, hf, h.1, h.2⟩
  · cases h

theorem blt_ge {f n : Nat} (h : n ≤ f) : ∀ k, k ≤ n → Nat.blt f k = false := fun k hk => by
  cases h' : Nat.blt f k with
  | false => rfl
  | true => exact absurd (show f < k by rw [← Nat.blt_eq]; exact h') (by omega)
theorem beq_ge {f n : Nat} (h : n ≤ f) : ∀ k, k < n → f.beq k = false := fun k hk => by
  cases h' : f.beq k with
  | false => rfl
  | true => exact absurd (Nat.eq_of_beq_eq_true h') (by omega)

theorem tab_of {P : Program} {globs : Nat → Option (List PVal)} {tab : Nat → Option MFunc} {clonesL : List (Nat × Nat × Bool)} {n : Nat} (hm : P.follows .mixedOrders = true) (hc : ((List.range n).all (chkFn P tab clonesL)) = true) (hn : ∀ f, n ≤ f → tab f = none)
    (hcl : ClonesOk P clonesL) : TabOk P globs tab fun _ => none where
  mixed := hm
  fns := fun f fn h => by
    have hf : f < n := by
      rcases Nat.lt_or_ge f n with h' | h'
      · exact h'
      · rw [hn f h'] at h; cases h
    have hc := List.all_eq_true.1 hc f (List.mem_range.2 hf)
    unfold chkFn at hc
    rw [h] at hc
    simp only [Bool.and_eq_true, List.all_eq_true, List.any_eq_true, beq_iff_eq] at hc
    refine ⟨hc.1.1, enters_of hc.1.2, fun e he => ?_⟩
    obtain ⟨d, hd, h2⟩ := hc.2 e he
    have e1 := Nat.eq_of_beq_eq_true h2.1.1
    have e2 := Nat.eq_of_beq_eq_true h2.1.2
    have := hcl d hd
    rw [e1, e2, h2.2]; exact this
  exts := fun f h e => by cases e

/-- The same, with externals. -/
theorem tab_ofE {P : Program} {ext : Nat → Option (List PVal → Mem → Option (PVal × Mem))} {globs : Nat → Option (List PVal)} {tab : Nat → Option MFunc} {clonesL : List (Nat × Nat × Bool)} {n : Nat} (hm : P.follows .mixedOrders = true) (hc : ((List.range n).all (chkFn P tab clonesL)) = true) (hn : ∀ f, n ≤ f → tab f = none)
    (hcl : ClonesOk P clonesL) (hext : ∀ f h, ext f = some h → ExtOk P globs f h) : TabOk P globs tab ext where
  mixed := hm
  fns := fun f fn h => by
    have hf : f < n := by
      rcases Nat.lt_or_ge f n with h' | h'
      · exact h'
      · rw [hn f h'] at h; cases h
    have hc := List.all_eq_true.1 hc f (List.mem_range.2 hf)
    unfold chkFn at hc
    rw [h] at hc
    simp only [Bool.and_eq_true, List.all_eq_true, List.any_eq_true, beq_iff_eq] at hc
    refine ⟨hc.1.1, enters_of hc.1.2, fun e he => ?_⟩
    obtain ⟨d, hd, h2⟩ := hc.2 e he
    have e1 := Nat.eq_of_beq_eq_true h2.1.1
    have e2 := Nat.eq_of_beq_eq_true h2.1.2
    have := hcl d hd
    rw [e1, e2, h2.2]; exact this
  exts := hext

theorem list_of5 {α : Type} : ∀ {l : List α}, l.length = 5 → ∃ a b c d e, l = [a, b, c, d, e]
  | [a, b, c, d, e], _ => ⟨a, b, c, d, e, rfl⟩
theorem list_of3 {α : Type} : ∀ {l : List α}, l.length = 3 → ∃ a b c, l = [a, b, c]
  | [a, b, c], _ => ⟨a, b, c, rfl⟩

end Go.Ev

/- Tables of whatever plain make, and tables of functions: what lies there, reckoned out of the datum. -/
namespace Go.Ev

section
variable {H : Type}

def rdAll (P : Program) (r : TypeId → DataW H → Option (List PVal)) : List TypeId → List (DataW H) → Option (List PVal)
  | [], [] => some []
  | t :: ts, d :: ds => (r t d).bind fun a => bif a.length.beq (P.cellsOf t) then (rdAll P r ts ds).map fun b => a ++ b else none
  | _, _ => none
def inTurn (P : Program) : Nat → List Field → Bool
  | _, [] => true
  | o, f :: fs => f.offset.beq o && inTurn P (o + P.cellsOf f.type) fs
def rdData (P : Program) (fh : H → Option Nat) : Nat → TypeId → DataW H → Option (List PVal)
  | 0, _, _ => none
  | n + 1, t, d =>
    match P.underlying t, d with
    | some (.int _), .lit (.int j z) => some [.int j z]
    | some .string, .lit (.string s) => some [.str s]
    | some .bool, .lit (.bool b) => some [.bool b]
    | some (.array m e), .agg ds => bif ds.length.beq m then rdAll P (rdData P fh n) (List.replicate m e) ds else none
    | some (.struct fs), .agg ds => bif ds.length.beq fs.size && inTurn P 0 fs.toList then rdAll P (rdData P fh n) (fs.toList.map (·.type)) ds else none
    | some (.func _ _ _), .held h => (fh h).map fun f => [.func f []]
    | _, _ => none

/-- What is reckoned lies there. -/
def LiesAs (g : Gh) (ps : List PVal) (cs : List Value) : Prop := ∀ (j : Nat) p, ps[j]? = some p → p.flat = true ∧ ∃ v, cs[j]? = some v ∧ VR g p v

theorem LiesAs.one {g : Gh} {p : PVal} {v : Value} (hf : p.flat = true) (h : VR g p v) : LiesAs g [p] [v] := fun j q e => by
  cases j with
  | zero => simp at e; subst e; exact ⟨hf, v, rfl, h⟩
  | succ j => simp at e

variable {P : Program} {enc : TypeId × Value → H} {W : World} {sp : Nat → Bool} {held : Bool} {fh : H → Option Nat} {g : Gh}

theorem rdAll_ok {r : TypeId → DataW H → Option (List PVal)} {m : Nat} {cs : List Value}
    (hr : ∀ t d cs q ps, DataW.trod enc P W 0 sp held m t cs = some (d, q) → r t d = some ps → LiesAs g ps cs) :
    ∀ (ts : List TypeId) (xs : List (DataW H × List MemPlace)) (o : Nat) (ps : List PVal), rdAll P r ts (xs.map (·.1)) = some ps →
      (∀ (i : Nat) (t : TypeId), ts[i]? = some t → DataW.trod enc P W 0 sp held m t ((cs.drop (o + ((ts.take i).map P.cellsOf).sum)).take (P.cellsOf t)) = xs[i]?) → LiesAs g ps (cs.drop o)
  | [], [], o, ps, h, _ => by
    simp only [List.map_nil, rdAll, Option.some.injEq] at h
    subst h
    intro j p e; simp at e
  | [], _ :: _, o, ps, h, _ => by simp [rdAll] at h
  | _ :: _, [], o, ps, h, _ => by simp [rdAll] at h
  | t :: ts, x :: xs, o, ps, h, hx => by
    simp only [List.map_cons, rdAll, Option.bind_eq_some_iff] at h
    obtain ⟨a, ha, h⟩ := h
    cases hl : a.length.beq (P.cellsOf t) with
    | false => rw [hl] at h; cases h
    | true =>
      rw [hl] at h
      have hl := Nat.eq_of_beq_eq_true hl
      simp only [cond_true, Option.map_eq_some_iff] at h
      obtain ⟨b, hb, rfl⟩ := h
      have h0 := hx 0 t rfl
      simp only [List.take_zero, List.map_nil, List.sum_nil, Nat.add_zero, List.getElem?_cons_zero] at h0
      have k0 := hr t x.1 _ x.2 a h0 ha
      have k1 := rdAll_ok hr ts xs (o + P.cellsOf t) b hb fun i u e => by
        have := hx (i + 1) u (by simpa using e)
        simp only [List.take_succ_cons, List.map_cons, List.sum_cons, List.getElem?_cons_succ] at this
        rw [← this, Nat.add_assoc]
      intro j p e
      by_cases hj : j < a.length
      · rw [List.getElem?_append_left hj] at e
        obtain ⟨hf, v, hv, hvr⟩ := k0 j p e
        refine ⟨hf, v, ?_, hvr⟩
        rw [List.getElem?_take, if_pos (by omega)] at hv
        exact hv
      · rw [List.getElem?_append_right (by omega)] at e
        obtain ⟨hf, v, hv, hvr⟩ := k1 _ p e
        refine ⟨hf, v, ?_, hvr⟩
        rw [List.getElem?_drop] at hv ⊢
        rw [← hv]; congr 1; omega

theorem inTurn_at {fs : List Field} : ∀ {o : Nat}, inTurn P o fs = true → ∀ (i : Nat) f, fs[i]? = some f → f.offset = o + (((fs.map (·.type)).take i).map P.cellsOf).sum := by
  induction fs with
  | nil => intro o _ i f e; simp at e
  | cons x fs ih =>
    intro o h i f e
    simp only [inTurn, Bool.and_eq_true] at h
    have h0 := Nat.eq_of_beq_eq_true h.1
    cases i with
    | zero => simp at e; subst e; simpa using h0
    | succ i =>
      simp only [List.getElem?_cons_succ] at e
      have := ih h.2 i f e
      simp only [List.map_cons, List.take_succ_cons, List.sum_cons]
      omega

theorem take_rep (m e : Nat) (i : Nat) (hi : i < m) : (((List.replicate m e).take i).map P.cellsOf).sum = i * P.cellsOf e := by
  rw [List.take_replicate, List.map_replicate, List.sum_replicate_nat]
  congr 1; omega

theorem rdData_ok (hfh : ∀ (fuel : Nat) (t : TypeId) (v : Value) (h : H) (q : List MemPlace) (ps rs : Array TypeId) (va : Bool) (f : Nat), P.underlying t = some (.func ps rs va) → DataW.trod enc P W 0 sp held fuel t [v] = some (.held h, q) → fh h = some f → v = .func (.func f) #[] #[]) :
    ∀ (n : Nat) (t : TypeId) (d : DataW H) (ps : List PVal), rdData P fh n t d = some ps → ∀ (fuel : Nat) (cs : List Value) (q : List MemPlace), DataW.trod enc P W 0 sp held fuel t cs = some (d, q) → LiesAs g ps cs
  | 0, t, d, ps, h => by cases h
  | n + 1, t, d, ps, h => by
    intro fuel cs q ht
    simp only [rdData] at h
    split at h
    · rename_i hu
      cases h
      obtain ⟨k, rfl, hx, _⟩ := DataW.trod_int hu ht
      cases hx
      exact .one rfl (.int _ _)
    · rename_i hu
      cases h
      obtain ⟨s, rfl, hx, _⟩ := DataW.trod_string hu ht
      cases hx
      exact .one rfl (by
        have := VR.str (g := g) s.data.toList
        simpa using this)
    · rename_i hu
      cases h
      obtain ⟨b, rfl, hx⟩ := DataW.trod_bool hu ht
      cases hx
      exact .one rfl (.bool _)
    · rename_i m e ds hu
      obtain ⟨xs, m', rfl, hx, _, hxl, hg⟩ := DataW.trod_array hu ht
      simp only [Prod.mk.injEq, DataW.agg.injEq] at hx
      cases hl : ds.length.beq m with
      | false => rw [hl] at h; cases h
      | true =>
        rw [hl] at h
        simp only [cond_true] at h
        rw [hx.1] at h
        have := rdAll_ok (g := g) (cs := cs) (fun t d cs q ps ht h => rdData_ok hfh n t d ps h m' cs q ht) (List.replicate m e) xs 0 ps h fun i t e' => by
          have hi : i < m := by have := (List.getElem?_eq_some_iff.1 e').1; simpa using this
          rw [List.getElem?_replicate, if_pos hi] at e'
          cases e'
          rw [take_rep m e i hi, Nat.zero_add]
          exact hg i hi
        simpa using this
    · rename_i fs ds hu
      obtain ⟨xs, m', rfl, hx, _, hxl, hg⟩ := DataW.trod_struct hu ht
      simp only [Prod.mk.injEq, DataW.agg.injEq] at hx
      cases hl : (ds.length.beq fs.size && inTurn P 0 fs.toList) with
      | false => rw [hl] at h; cases h
      | true =>
        rw [hl] at h
        simp only [Bool.and_eq_true] at hl
        simp only [cond_true] at h
        rw [hx.1] at h
        have := rdAll_ok (g := g) (cs := cs) (fun t d cs q ps ht h => rdData_ok hfh n t d ps h m' cs q ht) (fs.toList.map (·.type)) xs 0 ps h fun i t e' => by
          rw [List.getElem?_map, Option.map_eq_some_iff] at e'
          obtain ⟨f, hf, rfl⟩ := e'
          have ho := inTurn_at hl.2 i f hf
          have := hg i f (by simpa using hf)
          rw [ho] at this
          exact this
        simpa using this
    · rename_i h0 hu
      simp only [Option.map_eq_some_iff] at h
      obtain ⟨f, hf, rfl⟩ := h
      obtain ⟨v, rfl⟩ : ∃ v, cs = [v] := by
        cases fuel with
        | zero => simp [DataW.trod] at ht
        | succ m =>
          unfold DataW.trod at ht
          rw [hu] at ht
          split at ht <;> first | exact ⟨_, rfl⟩ | simp_all
      obtain rfl := hfh fuel t v h0 q _ _ _ f hu ht hf
      exact .one rfl (.func rfl (fun i c h => by simp at h) fun i c h => by simp at h)
    · cases h

/-- A variable that lies so is what the evaluator has for it. -/
theorem glob_as {name : String} {gn : Nat} {cs : Array Value} {ps : List PVal} (hg : P.globalNamed name = some gn) (hv : W.var? P name = some cs) (h : LiesAs (ghW W) ps cs.toList) (hne : ps ≠ []) : VR (ghW W) (.eptr ps) (.pointer (some ⟨gn, 0, none⟩)) := by
  have hcell : ∀ i, W.cell? ⟨gn, i, none⟩ = cs[i]? := fun i => World.var?_cell hg hv i
  have hlen : 0 < ps.length := List.length_pos_iff.2 hne
  obtain ⟨_, v0, hv0, _⟩ := h 0 ps[0] (by simp)
  have h0 := hcell 0
  rw [show cs[0]? = some v0 by simpa using hv0] at h0
  have hblk : ∃ c el fz, W.heap[gn]? = some (.cells c el fz) := by
    unfold World.cell? at h0
    split at h0
    · rename_i c el fz hc; exact ⟨c, el, fz, hc⟩
    · cases h0
  obtain ⟨c, el, fz, hc⟩ := hblk
  refine .eptr (row := ⟨c.toList, c.size, el, false⟩) (fun j => cs.toList.getD j undef) (ghW_lg hc) (fun p hp => ?_) (fun j p hj => ?_) fun j p hj => ?_
  · obtain ⟨i, hi⟩ := List.mem_iff_getElem?.1 hp
    exact (h i p hi).1
  · obtain ⟨_, v, hv, _⟩ := h j p hj
    show c.toList[0 + j]? = _
    have hj' := hcell j
    rw [cell_of_heap hc] at hj'
    rw [Nat.zero_add]
    have : c.toList[j]? = c[j]? := by simp
    rw [this, hj']
    simp at hv
    simp [hv]
  · obtain ⟨_, v, hv, hvr⟩ := h j p hj
    have : cs.toList.getD j undef = v := by simp [List.getD] at hv ⊢; simp [hv]
    rw [this]; exact hvr

end

theorem glob_data {P : Program} {W : World} {name : String} {d : DataW Unit} {gn t : Nat} {ps : List PVal} (n : Nat) (hg : P.globalNamed name = some gn) (ht : (P.globals[gn]?).map (·.type) = some t) (hr : rdData P (fun _ => none) n t d = some ps) (hne : ps ≠ [])
    (h : laidMet P [(name, d)] W) : VR (ghW W) (.eptr ps) (.pointer (some ⟨gn, 0, none⟩)) := by
  obtain ⟨_, ⟨g', t', cs, fuel, p, q, hg', ht', hvar, hd, _, _⟩, _⟩ := h
  obtain rfl := Option.some.inj (hg.symm.trans hg')
  obtain rfl := Option.some.inj (ht.symm.trans ht')
  exact glob_as hg hvar (rdData_ok (fun _ _ _ _ _ _ _ _ _ _ _ h => by cases h) n _ _ _ hr _ _ _ hd) hne

def funcOf (P : Program) (h : List UInt8) : Option Nat :=
  match h with
  | [] => none
  | b :: r => match (List.range P.funcs.size).filter fun f => (P.funcs[f]?).any (·.name.toUTF8.data.toList == b :: r) with
    | [f] => some f
    | _ => none

theorem glob_funcs {P : Program} {W : World} {name : String} {d : DataW Unit} {gn t : Nat} {ps : List PVal} (n : Nat) (hg : P.globalNamed name = some gn) (ht : (P.globals[gn]?).map (·.type) = some t) (hr : rdData P (funcOf P) n t d.funcsOut = some ps) (hne : ps ≠ [])
    (h : funcsAt P W name d) : VR (ghW W) (.eptr ps) (.pointer (some ⟨gn, 0, none⟩)) := by
  obtain ⟨g', t', cs, fuel, p, hg', ht', hvar, hd⟩ := h
  obtain rfl := Option.some.inj (hg.symm.trans hg')
  obtain rfl := Option.some.inj (ht.symm.trans ht')
  refine glob_as hg hvar (rdData_ok (fun fuel t v h q ps rs va f hu htr hf => ?_) n _ _ _ hr _ _ _ hd) hne
  unfold funcOf at hf
  split at hf
  · cases hf
  · rename_i b r
    split at hf
    · rename_i f0 hone
      cases hf
      exact func_of_trod hu hone htr
    · cases hf

/-- What was reckoned once may be looked up. -/
theorem ext_of {P : Program} {globs : Nat → Option (List PVal)} {tab : Nat → Option MFunc} {ext : Nat → Option (List PVal → Mem → Option (PVal × Mem))} {f : Nat} {e : List PVal → Mem → Option (PVal × Mem)} (ht : TabOk P globs tab ext) (hen : Enters P f)
    (h : ∀ a m r m', e a m = some (r, m') → ∃ L k, evFn globs tab ext L k (.func f []) a m = some (r, m')) : ExtOk P globs f e := by
  refine ⟨hen, fun ps m r m' he g w vs hR hw hg h1 ha hz => ?_⟩
  obtain ⟨L, k, hev⟩ := h _ _ _ _ he
  obtain ⟨_, hc⟩ := (evFn_ok ht k).1 f [] ps m r m' hev
  have := hc g w vs #[] hR hw hg h1 ha hz (.func rfl (fun i c h => by simp at h) (fun i c h => by simp at h))
  have e : vs.toArray ++ #[] = vs.toArray := by simp
  rw [e] at this
  exact this

end Go.Ev

