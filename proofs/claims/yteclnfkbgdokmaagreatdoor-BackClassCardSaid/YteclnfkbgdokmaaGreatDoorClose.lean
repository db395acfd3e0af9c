/- One of the texts that the proof of the law rests on: it has no condition of its own. -/
import Derived.Test.YteclnfkbgdokmaaGreatDoorSyC
import Derived.Test.YteclnfkbgdokmaaGreatDoorEvF
import Derived.Test.YteclnfkbgdokmaaGreatDoorCards
import Derived.Test.YteclnfkbgdokmaaGreatDoorTie
import Derived.WalkKit
import Derived.ProofKit
import Derived.OpenShut
import Derived.Deep.DeepHandedRow
import Derived.LaidMore
import Derived.LaidHandle
/- The law BackClass returns true for every input, and leaves what it was given as it was: no condition. -/
namespace Go.Proofs.YteclnfkbgdokmaaGreatDoor.backClass
open Go.ChangeShapes Go.WideShapes Go.ChangeAt Go.RowKit Go.Ev

theorem own : ownKnob Tryz.prog.godebug = none := by kernel_rfl

/-! What the evaluator's tables are worth. -/
def clonesL : List (Nat × Nat × Bool) := [(221, 3, false), (32, 1, false), (32, 1, true), (42, 6, false), (57, 18, false), (57, 18, true)]
theorem chk_all : ((List.range 253).all (chkFn Tryz.prog K8.tab clonesL)) = true := by kernel_rfl
theorem mixed : Tryz.prog.follows .mixedOrders = true := by kernel_rfl
theorem tab_ge (f : Nat) (h : 253 ≤ f) : K8.tab f = none := by
  have hb := blt_ge h
  have he := beq_ge h
  simp [K8.tab, hb, he]
theorem glob_ge (f : Nat) (h : 5 ≤ f) : K8.globs f = none := by
  have hb := blt_ge h
  have he := beq_ge h
  simp [K8.globs, hb, he]

theorem ints1 : CloneAt Tryz.prog 32 1 false ∧ CloneAt Tryz.prog 32 1 true := by
  constructor <;> exact clone_at (z := [.int .i64 0]) Tryz.func32 rfl rfl rfl (enters_of (by kernel_rfl)) (by kernel_rfl) (by kernel_rfl) (by kernel_rfl)
theorem ints18 : CloneAt Tryz.prog 57 18 false ∧ CloneAt Tryz.prog 57 18 true := by
  constructor <;> exact clone_at (z := List.replicate 18 (.int .i64 0)) Tryz.func57 rfl rfl rfl (enters_of (by kernel_rfl)) (by kernel_rfl) (by kernel_rfl) (by kernel_rfl)
theorem clones_all : ClonesOk Tryz.prog clonesL := by
  intro e he
  simp only [clonesL, List.mem_cons, List.not_mem_nil, or_false] at he
  rcases he with rfl | rfl | rfl | rfl | rfl | rfl
  · exact clone_at (z := List.replicate 3 (.int .i64 0)) Tryz.func221 rfl rfl rfl (enters_of (by kernel_rfl)) (by kernel_rfl) (by kernel_rfl) (by kernel_rfl)
  · exact ints1.1
  · exact ints1.2
  · exact clone_at (z := List.replicate 6 (.int .i64 0)) Tryz.func42 rfl rfl rfl (enters_of (by kernel_rfl)) (by kernel_rfl) (by kernel_rfl) (by kernel_rfl)
  · exact ints18.1
  · exact ints18.2

theorem tabOk : TabOk Tryz.prog K8.globs K8.tab noext := tab_of mixed chk_all tab_ge clones_all

/-! What lies in the world. -/
theorem gRest : Tryz.prog.globalNamed "mulligan/state.resting" = some 0 := by kernel_rfl
theorem gAsks : Tryz.prog.globalNamed "mulligan/decide.asks" = some 1 := by kernel_rfl
theorem gFlag : Tryz.prog.globalNamed "mulligan/state.flag" = some 2 := by kernel_rfl
theorem gAny : Tryz.prog.globalNamed "mulligan/state.any" = some 3 := by kernel_rfl
theorem gRest2 : Tryz.prog.globalNamed "mulligan/emit.resting" = some 4 := by kernel_rfl

theorem dataOf {W : World} (h : laidMetH Tryz.prog Rows.backClassRow.laid W) : laidMet Tryz.prog Rows.backClassRow.laid W := h
theorem only {W : World} (name : String) (d : DataW Unit) (h : laidMetH Tryz.prog Rows.backClassRow.laid W) (e : (Rows.backClassRow.laid.filter fun x => x.1 == name) = [(name, d)]) : laidMet Tryz.prog [(name, d)] W := by
  have := (dataOf h).filter (fun x => x.1 == name)
  rw [e] at this
  exact this

theorem ne_of {ps : List PVal} (h : ps.isEmpty = false) : ps ≠ [] := fun e => by rw [e] at h; cases h
theorem globs_ok {W : World} (h : laidMetH Tryz.prog Rows.backClassRow.laid W) : GlobOk K8.globs (ghW W) := by
  have t0 := glob_data (W := W) 5 gRest (t := 45) (by kernel_rfl) (d := Rows.laid_mulligan_state_resting) (ps := (K8.globs 0).getD []) (by kernel_rfl) (ne_of (by kernel_rfl)) (only _ _ h (by kernel_rfl))
  have t1 := glob_data (W := W) 5 gAsks (t := 136) (by kernel_rfl) (d := Rows.laid_mulligan_decide_asks) (ps := (K8.globs 1).getD []) (by kernel_rfl) (ne_of (by kernel_rfl)) (only _ _ h (by kernel_rfl))
  have t2 := glob_data (W := W) 5 gFlag (t := 116) (by kernel_rfl) (d := Rows.laid_mulligan_state_flag) (ps := (K8.globs 2).getD []) (by kernel_rfl) (ne_of (by kernel_rfl)) (only _ _ h (by kernel_rfl))
  have t3 := glob_data (W := W) 5 gAny (t := 116) (by kernel_rfl) (d := Rows.laid_mulligan_state_any) (ps := (K8.globs 3).getD []) (by kernel_rfl) (ne_of (by kernel_rfl)) (only _ _ h (by kernel_rfl))
  have t4 := glob_data (W := W) 5 gRest2 (t := 45) (by kernel_rfl) (d := Rows.laid_mulligan_emit_resting) (ps := (K8.globs 4).getD []) (by kernel_rfl) (ne_of (by kernel_rfl)) (only _ _ h (by kernel_rfl))
  intro i cs hi
  match i, hi with
  | 0, hi => cases hi; exact t0
  | 1, hi => cases hi; exact t1
  | 2, hi => cases hi; exact t2
  | 3, hi => cases hi; exact t3
  | 4, hi => cases hi; exact t4
  | i + 5, hi => rw [glob_ge (i + 5) (by omega)] at hi; cases hi

/-! The arguments. -/
theorem c3 : Tryz.prog.cellsOf 3 = 1 := by kernel_rfl
theorem c23 : Tryz.prog.cellsOf 23 = 1 := by kernel_rfl
theorem list_of6 {α : Type} : ∀ {l : List α}, l.length = 6 → ∃ a b c d e f, l = [a, b, c, d, e, f]
  | [a, b, c, d, e, f], _ => ⟨a, b, c, d, e, f, rfl⟩
/-- A decision that is read. -/
theorem rd_dec {H : Type} {enc : TypeId × Value → H} {W : World} (fuel : Nat) (cs : List Value) (x : DataW H × List MemPlace) (h : DataW.trod enc Tryz.prog W 0 (fun _ => true) true fuel 25 cs = some x) :
    cs.length = 5 ∧ Rd W (fun ps => ∃ a b c d l, ps = [.int .i64 a, .int .i64 b, .int .i64 c, .int .i64 d, .slice l .no]) cs := by
  obtain ⟨hl, xs, hx, hxl, n, hg⟩ := rd_fields Tryz.underlying25 h
  have h5 : cs.length = 5 := hl.trans (by kernel_rfl)
  obtain ⟨v0, v1, v2, v3, v4, rfl⟩ : ∃ v0 v1 v2 v3 v4, cs = [v0, v1, v2, v3, v4] := list_of5 h5
  obtain ⟨x0, x1, x2, x3, x4, rfl⟩ : ∃ x0 x1 x2 x3 x4, xs = [x0, x1, x2, x3, x4] := list_of5 hxl
  have g0 : DataW.trod enc Tryz.prog W 0 (fun _ => true) true n 3 (([v0, v1, v2, v3, v4].drop 0).take (Tryz.prog.cellsOf 3)) = some x0 := hg 0 _ rfl
  have g1 : DataW.trod enc Tryz.prog W 0 (fun _ => true) true n 3 (([v0, v1, v2, v3, v4].drop 1).take (Tryz.prog.cellsOf 3)) = some x1 := hg 1 _ rfl
  have g2 : DataW.trod enc Tryz.prog W 0 (fun _ => true) true n 3 (([v0, v1, v2, v3, v4].drop 2).take (Tryz.prog.cellsOf 3)) = some x2 := hg 2 _ rfl
  have g3 : DataW.trod enc Tryz.prog W 0 (fun _ => true) true n 3 (([v0, v1, v2, v3, v4].drop 3).take (Tryz.prog.cellsOf 3)) = some x3 := hg 3 _ rfl
  have g4 : DataW.trod enc Tryz.prog W 0 (fun _ => true) true n 23 (([v0, v1, v2, v3, v4].drop 4).take (Tryz.prog.cellsOf 23)) = some x4 := hg 4 _ rfl
  rw [c3] at g0 g1 g2 g3
  rw [c23] at g4
  have r0 := rd_int Tryz.underlying3 (cs := [v0]) (x := x0) g0
  have r1 := rd_int Tryz.underlying3 (cs := [v1]) (x := x1) g1
  have r2 := rd_int Tryz.underlying3 (cs := [v2]) (x := x2) g2
  have r3 := rd_int Tryz.underlying3 (cs := [v3]) (x := x3) g3
  have r4 := rd_slice (Q := fun _ ps => ∃ n, ps = [.int .i64 n]) Tryz.underlying23 (by rw [c3]; simp) (fun fuel cs x h => (rd_int Tryz.underlying3 h).imp fun ps ⟨n, e, _⟩ => ⟨n, e⟩) (cs := [v4]) (x := x4) g4
  refine ⟨rfl, (r0.append (r1.append (r2.append (r3.append r4)))).imp fun ps hp => ?_⟩
  obtain ⟨_, _, rfl, ⟨a, rfl, _⟩, _, _, rfl, ⟨b, rfl, _⟩, _, _, rfl, ⟨c, rfl, _⟩, _, _, rfl, ⟨d, rfl, _⟩, l, rfl, _⟩ := hp
  exact ⟨a, b, c, d, l, rfl⟩
/-- An event that is read. -/
theorem rd_ev {H : Type} {enc : TypeId × Value → H} {W : World} (fuel : Nat) (cs : List Value) (x : DataW H × List MemPlace) (h : DataW.trod enc Tryz.prog W 0 (fun _ => true) true fuel 72 cs = some x) :
    Rd W K8.IsEv cs := by
  obtain ⟨hl, xs, hx, hxl, n, hg⟩ := rd_fields Tryz.underlying72 h
  have h6 : cs.length = 6 := hl.trans (by kernel_rfl)
  obtain ⟨v0, v1, v2, v3, v4, v5, rfl⟩ : ∃ v0 v1 v2 v3 v4 v5, cs = [v0, v1, v2, v3, v4, v5] := list_of6 h6
  obtain ⟨x0, x1, x2, x3, x4, x5, rfl⟩ : ∃ x0 x1 x2 x3 x4 x5, xs = [x0, x1, x2, x3, x4, x5] := list_of6 hxl
  have g0 : DataW.trod enc Tryz.prog W 0 (fun _ => true) true n 3 (([v0, v1, v2, v3, v4, v5].drop 0).take (Tryz.prog.cellsOf 3)) = some x0 := hg 0 _ rfl
  have g1 : DataW.trod enc Tryz.prog W 0 (fun _ => true) true n 3 (([v0, v1, v2, v3, v4, v5].drop 1).take (Tryz.prog.cellsOf 3)) = some x1 := hg 1 _ rfl
  have g2 : DataW.trod enc Tryz.prog W 0 (fun _ => true) true n 3 (([v0, v1, v2, v3, v4, v5].drop 2).take (Tryz.prog.cellsOf 3)) = some x2 := hg 2 _ rfl
  have g3 : DataW.trod enc Tryz.prog W 0 (fun _ => true) true n 3 (([v0, v1, v2, v3, v4, v5].drop 3).take (Tryz.prog.cellsOf 3)) = some x3 := hg 3 _ rfl
  have g4 : DataW.trod enc Tryz.prog W 0 (fun _ => true) true n 3 (([v0, v1, v2, v3, v4, v5].drop 4).take (Tryz.prog.cellsOf 3)) = some x4 := hg 4 _ rfl
  have g5 : DataW.trod enc Tryz.prog W 0 (fun _ => true) true n 3 (([v0, v1, v2, v3, v4, v5].drop 5).take (Tryz.prog.cellsOf 3)) = some x5 := hg 5 _ rfl
  rw [c3] at g0 g1 g2 g3 g4 g5
  have r0 := rd_int Tryz.underlying3 (cs := [v0]) (x := x0) g0
  have r1 := rd_int Tryz.underlying3 (cs := [v1]) (x := x1) g1
  have r2 := rd_int Tryz.underlying3 (cs := [v2]) (x := x2) g2
  have r3 := rd_int Tryz.underlying3 (cs := [v3]) (x := x3) g3
  have r4 := rd_int Tryz.underlying3 (cs := [v4]) (x := x4) g4
  have r5 := rd_int Tryz.underlying3 (cs := [v5]) (x := x5) g5
  refine (r0.append (r1.append (r2.append (r3.append (r4.append r5))))).imp fun ps hp => ?_
  obtain ⟨_, _, rfl, ⟨a, rfl, _⟩, _, _, rfl, ⟨b, rfl, _⟩, _, _, rfl, ⟨c, rfl, _⟩, _, _, rfl, ⟨d, rfl, _⟩, _, _, rfl, ⟨e, rfl, _⟩, ⟨f, rfl, _⟩⟩ := hp
  exact ⟨a, b, c, d, e, f, rfl⟩
/-- The events. -/
theorem rd_evs {H : Type} {enc : TypeId × Value → H} {W : World} {fuel : Nat} {cs : List Value} {x : DataW H × List MemPlace} (h : DataW.trod enc Tryz.prog W 0 (fun _ => true) true fuel 22 cs = some x) :
    Rd W (fun ps => ∃ xs, ps = [.slice xs .no] ∧ ∀ y, y ∈ xs → K8.IsEv y) cs := by
  have c72 : Tryz.prog.cellsOf 72 ≠ 0 := by
    have : Tryz.prog.cellsOf 72 = 6 := by kernel_rfl
    rw [this]; simp
  refine (rd_slice (Q := fun _ => K8.IsEv) Tryz.underlying22 c72 (fun fuel cs x h => rd_ev fuel cs x h) h).imp fun ps hp => ?_
  obtain ⟨xs, rfl, hxs⟩ := hp
  refine ⟨xs, rfl, fun y hy => ?_⟩
  rcases hxs with ⟨_, rfl⟩ | ⟨ds, rest, _, _, hall⟩
  · cases hy
  · obtain ⟨i, hi⟩ := List.mem_iff_getElem?.1 hy
    obtain ⟨_, _, hq⟩ := hall i y hi
    exact hq

end Go.Proofs.YteclnfkbgdokmaaGreatDoor.backClass

/- BackClass: what the law does, for every argument: true, and nothing that lay there is changed. -/
namespace Go.Proofs.YteclnfkbgdokmaaGreatDoor.backClass
open Go.ChangeShapes Go.WideShapes Go.ChangeAt Go.RowKit Go.Ev

theorem laidOut : laidOutB Tryz.prog = true := by kernel_rfl
theorem rowed : mapsRowed Tryz.prog = true := by kernel_rfl
theorem full : ∀ t e, t < Tryz.prog.types.size → Tryz.prog.underlying t = some (.slice e) → 0 < Tryz.prog.cellsOf e := slices_full_of Tryz.prog (by kernel_rfl)
theorem rows22 : (22 : Nat) < Tryz.prog.types.size ∧ (3 : Nat) < Tryz.prog.types.size ∧ (25 : Nat) < Tryz.prog.types.size := ⟨of_decide_eq_true (by kernel_rfl), of_decide_eq_true (by kernel_rfl), of_decide_eq_true (by kernel_rfl)⟩
theorem par0 : Tryz.f3.params[0]? = some 22 := by kernel_rfl
theorem par1 : Tryz.f3.params[1]? = some 3 := by kernel_rfl
theorem agg_of {v : Value} (h : v.cells.toList.length = 5) : ∃ cs, v = .agg cs := by
  cases v <;> first | exact ⟨_, rfl⟩ | (simp [Value.cells] at h)

set_option maxRecDepth 100000 in
/-- WHAT THE LAW DOES, FOR EVERY ARGUMENT AND EVERY WORLD THAT HOLDS THE TABLES. -/
theorem contract (H : Type) (enc : TypeId × Value → H) (W : World) (base : Nat) (args : Array Value) (ds gs : List (DataW H)) (before : List MemPlace)
    (hval : ∀ (j : Nat) t v, Tryz.f3.params[j]? = some t → args[j]? = some v → Value.okWide Tryz.prog W .any base t v)
    (hW : DataW.Whole enc Tryz.prog Tryz.f3.params.toList (OpenSpec.ofChange Rows.backClassSpec).vars false W args.toList ds gs before) (hL : laidMetH Tryz.prog Rows.backClassRow.laid W) :
    Calls Tryz.prog 3 args W fun e W' => ∃ v, e = .returned v ∧ Rows.backClassSpec.post enc Tryz.prog Tryz.f3 false true false false W args v W' := by
  have hW' := hW
  obtain ⟨p, q, hA0, hV, rfl, hfz, hnd⟩ := hW
  have hA : DataW.TrodAll enc Tryz.prog W 0 (fun _ => true) true Tryz.f3.params.toList args.toList ds p := hA0
  have hA1 := hA
  rw [Tryz.params3] at hA
  have hv0 : ∀ v, args[0]? = some v → Value.okWide Tryz.prog W .any base 22 v := fun v h => hval 0 22 v par0 h
  have hv1 : ∀ v, args[1]? = some v → Value.okWide Tryz.prog W .any base 3 v := fun v h => hval 1 3 v par1 h
  clear hval
  obtain ⟨v0, vs0, d0, ds0, p0, q0, hargs, rfl, rfl, h0, r0⟩ := trodAll_cons hA
  obtain ⟨v1, vs1, d1, ds1, p1, q1, rfl, rfl, rfl, h1, r1⟩ := trodAll_cons r0
  obtain ⟨v2, vs2, d2, ds2, p2, q2, rfl, rfl, rfl, h2, r2⟩ := trodAll_cons r1
  obtain ⟨rfl, rfl, rfl⟩ := trodAll_nil r2
  obtain rfl : args = #[v0, v1, v2] := by cases args; simp_all
  obtain ⟨rfl, rfl⟩ := trodVars_none hV
  have hw0 := hv0 v0 rfl
  have hw1 := hv1 v1 rfl
  clear hv0 hv1
  obtain ⟨cc, hm1, hm2, hm3, _⟩ := open_int Tryz.underlying3 hw1 h1
  subst hm1 hm2 hm3
  obtain ⟨sa, sl, sc, rfl⟩ := okWide_slice Tryz.underlying22 hw0
  obtain ⟨fuel, hf⟩ := h0
  obtain ⟨ps0, hpl0, ⟨xs, rfl, hxs⟩, hfl0, hget0⟩ := rd_evs hf
  obtain ⟨fuel2, hf2⟩ := h2
  obtain ⟨hl5, ps2, hpl2, ⟨a, b, c, d, l, rfl⟩, hfl2, hget2⟩ := rd_dec _ _ _ hf2
  obtain ⟨cs, rfl⟩ := agg_of hl5
  have hev := K8.law_ok xs cc a b c d l hxs
  have hvr0 : VR (ghW W) (.slice xs .no) (.slice sa sl sc) := by
    obtain ⟨v, hv, hvr⟩ := hget0 0 _ rfl
    have : Value.slice sa sl sc = v := by simpa [Value.cells] using hv
    rw [this]; exact hvr
  have hcl0 : ∀ j, clV (.slice xs .no) (.slice sa sl sc) j = 0 := fun j => by
    have := clV_nz1 (.slice xs .no) (.slice sa sl sc) j
    exact this
  have hown0 : OwnOk (ghW W) (.slice xs .no) (.slice sa sl sc) := by
    have := OwnOk_nz1 (ghW W) (.slice xs .no) (.slice sa sl sc)
    exact this
  have hvr2 : VR (ghW W) (.agg [.int .i64 a, .int .i64 b, .int .i64 c, .int .i64 d, .slice l .no]) (.agg cs) := by
    refine .agg (by have h5 : 5 = (Value.agg cs).cells.toList.length := hpl2; rw [Array.length_toList] at h5; exact h5) (fun c hc => flat_cell (hfl2 c hc)) fun i c hi => ?_
    obtain ⟨v, hv, hvr⟩ := hget2 i c hi
    have : cs.getD i undef = v := getD_of (by simpa [Value.cells] using hv)
    rw [this]; exact hvr
  have hcl2 : ∀ j, clV (.agg [.int .i64 a, .int .i64 b, .int .i64 c, .int .i64 d, .slice l .no]) (.agg cs) j = 0 := fun j => by
    have := clV_nz1 (.agg [.int .i64 a, .int .i64 b, .int .i64 c, .int .i64 d, .slice l .no]) (.agg cs) j
    exact this
  have hown2 : OwnOk (ghW W) (.agg [.int .i64 a, .int .i64 b, .int .i64 c, .int .i64 d, .slice l .no]) (.agg cs) := by
    have := OwnOk_nz1 (ghW W) (.agg [.int .i64 a, .int .i64 b, .int .i64 c, .int .i64 d, .slice l .no]) (.agg cs)
    exact this
  have walk := law_calls tabOk hev (W := W) (vs := [.slice sa sl sc, .int .i64 cc, .agg cs]) (globs_ok hL) (.cons ⟨hvr0, hown0⟩ (.cons ⟨.int _ _, trivial⟩ (.cons ⟨hvr2, hown2⟩ .nil))) (fun j => by
    simp only [clA]
    rw [hcl0, hcl2]
    rfl)
  refine Calls.mono (show Calls Tryz.prog 3 #[.slice sa sl sc, .int .i64 cc, .agg cs] W _ from walk) fun e W' ⟨he, hsame, hg⟩ => ?_
  subst he
  have hts : ∀ t, t ∈ Tryz.f3.params.toList → t < Tryz.prog.types.size := fun t ht => by
    rw [Tryz.params3] at ht
    simp only [List.mem_cons, List.not_mem_nil, or_false] at ht
    rcases ht with rfl | rfl | rfl
    · exact rows22.1
    · exact rows22.2.1
    · exact rows22.2.2
  exact ⟨_, rfl, post_of_same (pa := _) (pv := []) hW' (fun _ _ _ => trodAll_cons_mk (shut_bool Tryz.underlying4 _) trodAll_mk0) (fun sp hsp => trod_again laidOut rowed full hsame hts hA1 (fun x hx => hsp x (by simpa using hx))) (fun _ _ => rfl) rfl
    (hg.frame _) hg.2.1 (ok_one (by kernel_rfl) rfl (okWide_bool_mk Tryz.underlying4 _))⟩

end Go.Proofs.YteclnfkbgdokmaaGreatDoor.backClass

