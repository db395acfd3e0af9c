/- One of the texts that the proof of the law rests on: it has no condition of its own. -/
import Derived.Test.YtdnddpefaanalaaGreatDoorSyE
import Derived.Test.YtdnddpefaanalaaGreatDoorEvF
import Derived.Test.YtdnddpefaanalaaGreatDoorCards
import Derived.Test.YtdnddpefaanalaaGreatDoorTie
import Derived.WalkKit
import Derived.ProofKit
import Derived.OpenShut
import Derived.Deep.DeepHandedRow
import Derived.Lib.LaidTab
/- The law LoopTells returns true for every input of bulk at most 1048576, and leaves what it was given as it was: no condition beside these. -/
namespace Go.Proofs.YtdnddpefaanalaaGreatDoor.loopTells
open Go.ChangeShapes Go.WideShapes Go.ChangeAt Go.RowKit Go.Ev

theorem one_le {H : Type} (d : DataW H) : 1 ≤ Rows.uptoBulk d := by
  cases d with
  | lit l => cases l <;> simp [Rows.uptoBulk]
  | nil => simp [Rows.uptoBulk]
  | ptr d => simp [Rows.uptoBulk]
  | slice elems spare => simp [Rows.uptoBulk]
  | agg parts => simp [Rows.uptoBulk]
  | iface t d => simp [Rows.uptoBulk]
  | map entries => simp [Rows.uptoBulk]
  | held h => simp [Rows.uptoBulk]
theorem part_le {H : Type} {d : DataW H} {l : List (DataW H)} (h : d ∈ l) : Rows.uptoBulk d ≤ Rows.uptoBulkAll l := by
  induction l with
  | nil => cases h
  | cons x r ih =>
    simp only [Rows.uptoBulkAll]
    cases List.mem_cons.1 h with
    | inl e => subst e; omega
    | inr e => have := ih e; omega
theorem length_le {H : Type} (l : List (DataW H)) : l.length ≤ Rows.uptoBulkAll l := by
  induction l with
  | nil => simp [Rows.uptoBulkAll]
  | cons x r ih => have := one_le x; simp only [Rows.uptoBulkAll, List.length_cons]; omega

theorem own : ownKnob Tryz.prog.godebug = none := by kernel_rfl

/-! What the evaluator's tables are worth. -/
def clonesL : List (Nat × Nat × Bool) := [(19, 1, false), (30, 18, false), (55, 6, false), (30, 18, true), (200, 3, false)]
theorem chk_all : ((List.range 232).all (chkFn Tryz.prog T3.tab clonesL)) = true := by kernel_rfl
theorem mixed : Tryz.prog.follows .mixedOrders = true := by kernel_rfl
theorem tab_ge (f : Nat) (h : 232 ≤ f) : T3.tab f = none := by
  have hb := blt_ge h
  have he := beq_ge h
  simp [T3.tab, hb, he]
theorem glob_ge (f : Nat) (h : 5 ≤ f) : T3.globs f = none := by
  have hb := blt_ge h
  have he := beq_ge h
  simp [T3.globs, hb, he]

theorem ints18 : CloneAt Tryz.prog 30 18 false ∧ CloneAt Tryz.prog 30 18 true := by
  constructor <;> exact clone_at (z := List.replicate 18 (.int .i64 0)) Tryz.func30 rfl rfl rfl (enters_of (by kernel_rfl)) (by kernel_rfl) (by kernel_rfl) (by kernel_rfl)
theorem clones_all : ClonesOk Tryz.prog clonesL := by
  intro e he
  simp only [clonesL, List.mem_cons, List.not_mem_nil, or_false] at he
  rcases he with rfl | rfl | rfl | rfl | rfl
  · exact clone_at (z := [.int .i64 0]) Tryz.func19 rfl rfl rfl (enters_of (by kernel_rfl)) (by kernel_rfl) (by kernel_rfl) (by kernel_rfl)
  · exact ints18.1
  · exact clone_at (z := List.replicate 6 (.int .i64 0)) Tryz.func55 rfl rfl rfl (enters_of (by kernel_rfl)) (by kernel_rfl) (by kernel_rfl) (by kernel_rfl)
  · exact ints18.2
  · exact clone_at (z := List.replicate 3 (.int .i64 0)) Tryz.func200 rfl rfl rfl (enters_of (by kernel_rfl)) (by kernel_rfl) (by kernel_rfl) (by kernel_rfl)

theorem tabOk : TabOk Tryz.prog T3.globs T3.tab noext := tab_of mixed chk_all tab_ge clones_all

/-! What lies in the world. -/
theorem gAny : Tryz.prog.globalNamed "mulligan/state.any" = some 2 := by kernel_rfl
theorem gFlag : Tryz.prog.globalNamed "mulligan/state.flag" = some 1 := by kernel_rfl
theorem gRest : Tryz.prog.globalNamed "mulligan/state.resting" = some 0 := by kernel_rfl
theorem gRest2 : Tryz.prog.globalNamed "mulligan/emit.resting" = some 4 := by kernel_rfl
theorem gAsks : Tryz.prog.globalNamed "mulligan/decide.asks" = some 3 := by kernel_rfl

theorem only {W : World} (name : String) (k : IntKind) (zs : List Int) (h : laidMetH Tryz.prog Rows.loopTellsRow.laid W) (e : (Rows.loopTellsRow.laid.filter fun x => x.1 == name) = [(name, Lib.tabData k zs)]) : laidMet Tryz.prog [(name, Lib.tabData k zs)] W := by
  have := h.filter (fun x => x.1 == name)
  rw [e] at this
  exact this

theorem globs_ok {W : World} (h : laidMetH Tryz.prog Rows.loopTellsRow.laid W) : GlobOk T3.globs (ghW W) := by
  have t0 : Lib.TabIs Tryz.prog W "mulligan/state.resting" .i64 [4, 5, 6, 7, 8, 9, 10, 11, 12] :=
    Lib.tabIs_of_head (rest := []) gRest (by kernel_rfl) (t := 40) (e := 3) (n := 9) (by kernel_rfl) (by kernel_rfl) (by kernel_rfl) (by kernel_rfl) (only "mulligan/state.resting" .i64 [4, 5, 6, 7, 8, 9, 10, 11, 12] h (by kernel_rfl))
  have t4 : Lib.TabIs Tryz.prog W "mulligan/emit.resting" .i64 [4, 5, 6, 7, 8, 9, 10, 11, 12] :=
    Lib.tabIs_of_head (rest := []) gRest2 (by kernel_rfl) (t := 40) (e := 3) (n := 9) (by kernel_rfl) (by kernel_rfl) (by kernel_rfl) (by kernel_rfl) (only "mulligan/emit.resting" .i64 [4, 5, 6, 7, 8, 9, 10, 11, 12] h (by kernel_rfl))
  have t3 : Lib.TabIs Tryz.prog W "mulligan/decide.asks" .u64 [0, 5, 7, 8, 8, 1, 2] :=
    Lib.tabIs_of_head (rest := []) gAsks (by kernel_rfl) (t := 139) (e := 138) (n := 7) (by kernel_rfl) (by kernel_rfl) (by kernel_rfl) (by kernel_rfl) (only "mulligan/decide.asks" .u64 [0, 5, 7, 8, 8, 1, 2] h (by kernel_rfl))
  have t1 : Lib.TabIs Tryz.prog W "mulligan/state.flag" .i64 [0, 1] :=
    tabIs_struct2 (rest := []) gFlag (by kernel_rfl) (t := 94) Tryz.underlying94 rfl rfl (by kernel_rfl) (by kernel_rfl) (by kernel_rfl) (by kernel_rfl) (by kernel_rfl) (only "mulligan/state.flag" .i64 [0, 1] h (by kernel_rfl))
  have t2 : Lib.TabIs Tryz.prog W "mulligan/state.any" .i64 [-1073741824, 1073741824] :=
    tabIs_struct2 (rest := []) gAny (by kernel_rfl) (t := 94) Tryz.underlying94 rfl rfl (by kernel_rfl) (by kernel_rfl) (by kernel_rfl) (by kernel_rfl) (by kernel_rfl) (only "mulligan/state.any" .i64 [-1073741824, 1073741824] h (by kernel_rfl))
  intro i cs hi
  match i, hi with
  | 0, hi => cases hi; exact glob_vr t0 gRest (by simp)
  | 1, hi => cases hi; exact glob_vr t1 gFlag (by simp)
  | 2, hi => cases hi; exact glob_vr t2 gAny (by simp)
  | 3, hi => cases hi; exact glob_vr t3 gAsks (by simp)
  | 4, hi => cases hi; exact glob_vr t4 gRest2 (by simp)
  | i + 5, hi => rw [glob_ge (i + 5) (by omega)] at hi; cases hi

/-! The arguments. -/
/-- A decision that is read. -/
theorem rd_dec {H : Type} {enc : TypeId × Value → H} {W : World} (fuel : Nat) (cs : List Value) (x : DataW H × List MemPlace) (h : DataW.trod enc Tryz.prog W 0 (fun _ => true) true fuel 36 cs = some x) :
    Rd W (fun ps => ∃ a b c1 d l, ps = T3.D a b c1 d l ∧ headSz 1 l = true ∧ l.length ≤ Rows.uptoBulk x.1 ∧ ∀ y, y ∈ l → ∃ n, y = [.int .i64 n]) cs := by
  obtain ⟨hl, xs, hx, hxl, n, hg⟩ := rd_fields Tryz.underlying36 h
  have h5 : cs.length = 5 := hl.trans (by kernel_rfl)
  have c3 : Tryz.prog.cellsOf 3 = 1 := by kernel_rfl
  have c34 : Tryz.prog.cellsOf 34 = 1 := by kernel_rfl
  obtain ⟨v0, v1, v2, v3, v4, rfl⟩ : ∃ v0 v1 v2 v3 v4, cs = [v0, v1, v2, v3, v4] := by
    exact list_of5 h5
  obtain ⟨x0, x1, x2, x3, x4, rfl⟩ : ∃ x0 x1 x2 x3 x4, xs = [x0, x1, x2, x3, x4] := by
    exact list_of5 hxl
  have g0 : DataW.trod enc Tryz.prog W 0 (fun _ => true) true n 3 (([v0, v1, v2, v3, v4].drop 0).take (Tryz.prog.cellsOf 3)) = some x0 := hg 0 _ rfl
  have g1 : DataW.trod enc Tryz.prog W 0 (fun _ => true) true n 3 (([v0, v1, v2, v3, v4].drop 1).take (Tryz.prog.cellsOf 3)) = some x1 := hg 1 _ rfl
  have g2 : DataW.trod enc Tryz.prog W 0 (fun _ => true) true n 3 (([v0, v1, v2, v3, v4].drop 2).take (Tryz.prog.cellsOf 3)) = some x2 := hg 2 _ rfl
  have g3 : DataW.trod enc Tryz.prog W 0 (fun _ => true) true n 3 (([v0, v1, v2, v3, v4].drop 3).take (Tryz.prog.cellsOf 3)) = some x3 := hg 3 _ rfl
  have g4 : DataW.trod enc Tryz.prog W 0 (fun _ => true) true n 34 (([v0, v1, v2, v3, v4].drop 4).take (Tryz.prog.cellsOf 34)) = some x4 := hg 4 _ rfl
  rw [c3] at g0 g1 g2 g3
  rw [c34] at g4
  have r0 := rd_int Tryz.underlying3 (cs := [v0]) (x := x0) g0
  have r1 := rd_int Tryz.underlying3 (cs := [v1]) (x := x1) g1
  have r2 := rd_int Tryz.underlying3 (cs := [v2]) (x := x2) g2
  have r3 := rd_int Tryz.underlying3 (cs := [v3]) (x := x3) g3
  have r4 := rd_slice (Q := fun _ ps => ∃ n, ps = [.int .i64 n]) Tryz.underlying34 (by rw [c3]; simp) (fun fuel cs x h => (rd_int Tryz.underlying3 h).imp fun ps ⟨n, e, _⟩ => ⟨n, e⟩) (cs := [v4]) (x := x4) g4
  refine (r0.append (r1.append (r2.append (r3.append r4)))).imp fun ps hp => ?_
  obtain ⟨_, _, rfl, ⟨a, rfl, _⟩, _, _, rfl, ⟨b, rfl, _⟩, _, _, rfl, ⟨c, rfl, _⟩, _, _, rfl, ⟨d, rfl, _⟩, l, rfl, hl4⟩ := hp
  have hints : ∀ y, y ∈ l → ∃ n, y = [.int .i64 n] := fun y hy => by
    rcases hl4 with ⟨_, rfl⟩ | ⟨ds, rest, _, _, hall⟩
    · cases hy
    · obtain ⟨i, hi⟩ := List.mem_iff_getElem?.1 hy
      obtain ⟨_, _, hq⟩ := hall i y hi
      exact hq
  refine ⟨a, b, c, d, l, rfl, ?_, ?_, hints⟩
  · cases l with
    | nil => rfl
    | cons y l =>
      obtain ⟨n, rfl⟩ := hints y List.mem_cons_self
      rfl
  · rw [hx]
    have hm : x4.1 ∈ [x0, x1, x2, x3, x4].map (·.1) := by simp
    have h1 := part_le hm
    have h2 : Rows.uptoBulk (DataW.agg ([x0, x1, x2, x3, x4].map (·.1))) = Rows.uptoBulkAll ([x0, x1, x2, x3, x4].map (·.1)) + 1 := by simp only [Rows.uptoBulk]
    have h3 : l.length ≤ Rows.uptoBulk x4.1 := by
      rcases hl4 with ⟨_, rfl⟩ | ⟨ds, rest, e, hlen, _⟩
      · exact Nat.zero_le _
      · rw [e, ← hlen]
        have := length_le ds
        simp only [Rows.uptoBulk]; omega
    omega

/-- The law's arguments. -/
theorem rd_args {H : Type} {enc : TypeId × Value → H} {W : World} {fuel : Nat} {cs : List Value} {x : DataW H × List MemPlace} (h : DataW.trod enc Tryz.prog W 0 (fun _ => true) true fuel 24 cs = some x) :
    cs.length = 3 ∧ Rd W (fun ps => ∃ turn many stop, ps = [.slice turn .no, .int .i64 many, .int .i64 stop] ∧ (Rows.uptoBulk x.1 ≤ 1048576 → ∀ y, y ∈ turn → T3.IsDec y)) cs := by
  obtain ⟨hl, xs, hx, hxl, n, hg⟩ := rd_fields Tryz.underlying24 h
  have h3 : cs.length = 3 := hl.trans (by kernel_rfl)
  have c3 : Tryz.prog.cellsOf 3 = 1 := by kernel_rfl
  have c22 : Tryz.prog.cellsOf 22 = 1 := by kernel_rfl
  obtain ⟨v0, v1, v2, rfl⟩ : ∃ v0 v1 v2, cs = [v0, v1, v2] := by
    exact list_of3 h3
  obtain ⟨x0, x1, x2, rfl⟩ : ∃ x0 x1 x2, xs = [x0, x1, x2] := by
    exact list_of3 hxl
  have g0 : DataW.trod enc Tryz.prog W 0 (fun _ => true) true n 22 (([v0, v1, v2].drop 0).take (Tryz.prog.cellsOf 22)) = some x0 := hg 0 _ rfl
  have g1 : DataW.trod enc Tryz.prog W 0 (fun _ => true) true n 3 (([v0, v1, v2].drop 1).take (Tryz.prog.cellsOf 3)) = some x1 := hg 1 _ rfl
  have g2 : DataW.trod enc Tryz.prog W 0 (fun _ => true) true n 3 (([v0, v1, v2].drop 2).take (Tryz.prog.cellsOf 3)) = some x2 := hg 2 _ rfl
  rw [c22] at g0
  rw [c3] at g1 g2
  have c36 : Tryz.prog.cellsOf 36 ≠ 0 := by
    have : Tryz.prog.cellsOf 36 = 5 := by kernel_rfl
    rw [this]; simp
  have r0 := rd_slice (Q := fun d ps => ∃ a b c1 e l, ps = T3.D a b c1 e l ∧ headSz 1 l = true ∧ l.length ≤ Rows.uptoBulk d ∧ ∀ y, y ∈ l → ∃ n, y = [.int .i64 n]) Tryz.underlying22 c36 (fun fuel cs x h => rd_dec fuel cs x h) (cs := [v0]) (x := x0) g0
  have r1 := rd_int Tryz.underlying3 (cs := [v1]) (x := x1) g1
  have r2 := rd_int Tryz.underlying3 (cs := [v2]) (x := x2) g2
  refine ⟨rfl, (r0.append (r1.append r2)).imp fun ps hp => ?_⟩
  obtain ⟨_, _, rfl, ⟨turn, rfl, ht⟩, _, _, rfl, ⟨many, rfl, _⟩, stop, rfl, _⟩ := hp
  refine ⟨turn, many, stop, rfl, fun hb y hy => ?_⟩
  rcases ht with ⟨_, rfl⟩ | ⟨ds, rest, e, hlen, hall⟩
  · cases hy
  · obtain ⟨i, hi⟩ := List.mem_iff_getElem?.1 hy
    obtain ⟨d, hd, a, b, c1, f, l, rfl, h1, h2, h4⟩ := hall i y hi
    refine ⟨a, b, c1, f, l, rfl, h1, ?_, h4⟩
    have hm : x0.1 ∈ [x0, x1, x2].map (·.1) := by simp
    have b1 := part_le hm
    have b2 : Rows.uptoBulk (DataW.agg ([x0, x1, x2].map (·.1))) = Rows.uptoBulkAll ([x0, x1, x2].map (·.1)) + 1 := by simp only [Rows.uptoBulk]
    have b3 := part_le (List.mem_of_getElem? hd)
    rw [hx] at hb
    rw [e] at b1
    simp only [Rows.uptoBulk] at b1
    omega


end Go.Proofs.YtdnddpefaanalaaGreatDoor.loopTells

/- LoopTells: what the law does, for every argument of such bulk: true, and nothing that lay there is changed: no condition beside the bound. -/
namespace Go.Proofs.YtdnddpefaanalaaGreatDoor.loopTells
open Go.ChangeShapes Go.WideShapes Go.ChangeAt Go.RowKit Go.Ev

theorem laidOut : laidOutB Tryz.prog = true := by kernel_rfl
theorem rowed : mapsRowed Tryz.prog = true := by kernel_rfl
theorem full : ∀ t e, t < Tryz.prog.types.size → Tryz.prog.underlying t = some (.slice e) → 0 < Tryz.prog.cellsOf e := slices_full_of Tryz.prog (by kernel_rfl)
theorem rows24 : (24 : Nat) < Tryz.prog.types.size ∧ (3 : Nat) < Tryz.prog.types.size := ⟨of_decide_eq_true (by kernel_rfl), of_decide_eq_true (by kernel_rfl)⟩

theorem par1 : Tryz.f3.params[1]? = some 3 := by kernel_rfl
theorem agg_of {v : Value} (h : v.cells.toList.length = 3) : ∃ cs, v = .agg cs := by
  cases v <;> first | exact ⟨_, rfl⟩ | (simp [Value.cells] at h)

set_option maxRecDepth 100000 in
/-- WHAT THE LAW DOES, FOR EVERY ARGUMENT OF SUCH BULK AND EVERY WORLD THAT HOLDS THE TABLES. -/
theorem contract (H : Type) (enc : TypeId × Value → H) (W : World) (base : Nat) (args : Array Value) (ds gs : List (DataW H)) (before : List MemPlace)
    (hval : ∀ (j : Nat) t v, Tryz.f3.params[j]? = some t → args[j]? = some v → Value.okWide Tryz.prog W .any base t v)
    (hW : DataW.Whole enc Tryz.prog Tryz.f3.params.toList Rows.loopTellsSpec.vars false W args.toList ds gs before) (hk : Rows.uptoSmall H (ds ++ gs) = true) (hL : laidMetH Tryz.prog Rows.loopTellsRow.laid W) :
    Calls Tryz.prog 3 args W fun e W' => ∃ v, e = .returned v ∧ Rows.loopTellsSpec.post enc Tryz.prog Tryz.f3 false true false false W args v W' := by
  have hW' := hW
  obtain ⟨p, q, hA0, hV, rfl, hfz, hnd⟩ := hW
  have hA : DataW.TrodAll enc Tryz.prog W 0 (fun _ => true) true Tryz.f3.params.toList args.toList ds p := hA0
  have hA1 := hA
  rw [Tryz.params3] at hA
  have hv1 : ∀ v, args[1]? = some v → Value.okWide Tryz.prog W .any base 3 v := fun v h => hval 1 3 v par1 h
  clear hval
  obtain ⟨v0, vs0, d0, ds0, p0, q0, hargs, rfl, rfl, h0, r0⟩ := trodAll_cons hA
  obtain ⟨v1, vs1, d1, ds1, p1, q1, rfl, rfl, rfl, h1, r1⟩ := trodAll_cons r0
  obtain ⟨rfl, rfl, rfl⟩ := trodAll_nil r1
  obtain rfl : args = #[v0, v1] := by cases args; simp_all
  obtain ⟨rfl, rfl⟩ := trodVars_none hV
  have hv1 := hv1 v1 rfl
  obtain ⟨most, hm1, hm2, hm3, _⟩ := open_int Tryz.underlying3 hv1 h1
  subst hm1 hm2 hm3
  have hbulk : Rows.uptoBulk d0 ≤ 1048576 := by
    have : Rows.uptoBulkAll ([d0, DataW.lit (.int .i64 most)] ++ []) ≤ 1048576 := by simpa [Rows.uptoSmall] using hk
    simp only [List.append_nil, Rows.uptoBulkAll] at this
    omega
  obtain ⟨fuel, hf⟩ := h0
  obtain ⟨hl3, ps, hpl, ⟨turn, many, stop, rfl, hdec⟩, hfl, hget⟩ := rd_args hf
  have hdec := hdec hbulk
  obtain ⟨cs, rfl⟩ := agg_of hl3
  have hev : evFn T3.globs T3.tab noext 2000000 100 (.func 3 []) [.agg [.slice turn .no, .int .i64 many, .int .i64 stop], .int .i64 most] ⟨0, [], []⟩ = some (.bool true, ⟨0, [], []⟩) := by
    by_cases hb : 40 < turn.length ∨ 60 < most
    · exact T3.law_big turn many stop most hb
    · exact T3.law_ok turn many stop most (by omega) (by omega) hdec
  have hvr : VR (ghW W) (.agg [.slice turn .no, .int .i64 many, .int .i64 stop]) (.agg cs) := by
    refine .agg (by have h5 : 3 = (Value.agg cs).cells.toList.length := hpl; rw [Array.length_toList] at h5; exact h5) (fun c hc => flat_cell (hfl c hc)) fun i c hi => ?_
    obtain ⟨v, hv, hvr⟩ := hget i c hi
    have : cs.getD i undef = v := getD_of (by simpa [Value.cells] using hv)
    rw [this]; exact hvr
  have hcl : ∀ b, clV (.agg [.slice turn .no, .int .i64 many, .int .i64 stop]) (.agg cs) b = 0 := fun b => by
    have := clV_nz1 (.agg [.slice turn .no, .int .i64 many, .int .i64 stop]) (.agg cs) b
    exact this
  have hown : OwnOk (ghW W) (.agg [.slice turn .no, .int .i64 many, .int .i64 stop]) (.agg cs) := by
    have := OwnOk_nz1 (ghW W) (.agg [.slice turn .no, .int .i64 many, .int .i64 stop]) (.agg cs)
    exact this
  have walk := law_calls tabOk hev (W := W) (vs := [.agg cs, .int .i64 most]) (globs_ok hL) (.cons ⟨hvr, hown⟩ (.cons ⟨.int _ _, trivial⟩ .nil)) (fun b => by
    simp only [clA]
    rw [hcl]
    rfl)
  refine Calls.mono (show Calls Tryz.prog 3 #[.agg cs, .int .i64 most] W _ from walk) fun e W' ⟨he, hsame, hg⟩ => ?_
  subst he
  have hts : ∀ t, t ∈ Tryz.f3.params.toList → t < Tryz.prog.types.size := fun t ht => by
    rw [Tryz.params3] at ht
    simp only [List.mem_cons, List.not_mem_nil, or_false] at ht
    rcases ht with rfl | rfl
    · exact rows24.1
    · exact rows24.2
  exact ⟨_, rfl, post_of_same (pa := _) (pv := []) hW' (fun _ _ _ => trodAll_cons_mk (shut_bool Tryz.underlying4 _) trodAll_mk0) (fun sp hsp => trod_again laidOut rowed full hsame hts hA1 (fun x hx => hsp x (by simpa using hx))) (fun _ _ => rfl) rfl
    (hg.frame _) hg.2.1 (ok_one (by kernel_rfl) rfl (okWide_bool_mk Tryz.underlying4 _))⟩


end Go.Proofs.YtdnddpefaanalaaGreatDoor.loopTells

