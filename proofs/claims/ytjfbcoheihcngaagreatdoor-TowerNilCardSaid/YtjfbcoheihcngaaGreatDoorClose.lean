/- One of the texts that the proof of the law rests on: it has no condition of its own. -/
import Derived.Test.YtjfbcoheihcngaaGreatDoorAlC
import Derived.Test.YtjfbcoheihcngaaGreatDoorAlA
import Derived.Test.YtjfbcoheihcngaaGreatDoorAlB
import Derived.Test.YtjfbcoheihcngaaGreatDoorExt
import Derived.Test.YtjfbcoheihcngaaGreatDoorEvF
import Derived.Test.YtjfbcoheihcngaaGreatDoorCards
import Derived.Test.YtjfbcoheihcngaaGreatDoorTie
import Derived.WalkKit
import Derived.ProofKit
import Derived.OpenShut
import Derived.Deep.DeepHandedRow
import Derived.LaidMore
import Derived.LaidHandle
/- The law TowerNil returns true for every input, and leaves what it was given as it was: no condition. -/
namespace Go.Proofs.YtjfbcoheihcngaaGreatDoor.towerNil
open Go.ChangeShapes Go.WideShapes Go.ChangeAt Go.RowKit Go.Ev

theorem own : ownKnob Tryz.prog.godebug = none := by kernel_rfl

/-! What the evaluator's tables are worth. -/
def clonesL : List (Nat × Nat × Bool) := [(126, 3, false), (21, 2, false), (27, 1, false), (37, 18, false), (37, 18, true)]
theorem chk_all : ((List.range 264).all (chkFn Tryz.prog N4.tab clonesL)) = true := by kernel_rfl
theorem mixed : Tryz.prog.follows .mixedOrders = true := by kernel_rfl
theorem tab_ge (f : Nat) (h : 264 ≤ f) : N4.tab f = none := by
  have hb := blt_ge h
  have he := beq_ge h
  simp [N4.tab, hb, he]
theorem glob_ge (f : Nat) (h : 8 ≤ f) : N4.gl f = none := by
  have he := beq_ge h
  simp [N4.gl, he]

theorem ints18 : CloneAt Tryz.prog 37 18 false ∧ CloneAt Tryz.prog 37 18 true := by
  constructor <;> exact clone_at (z := List.replicate 18 (.int .i64 0)) Tryz.func37 rfl rfl rfl (enters_of (by kernel_rfl)) (by kernel_rfl) (by kernel_rfl) (by kernel_rfl)
theorem clones_all : ClonesOk Tryz.prog clonesL := by
  intro e he
  simp only [clonesL, List.mem_cons, List.not_mem_nil, or_false] at he
  rcases he with rfl | rfl | rfl | rfl | rfl
  · exact clone_at (z := List.replicate 3 (.int .i64 0)) Tryz.func126 rfl rfl rfl (enters_of (by kernel_rfl)) (by kernel_rfl) (by kernel_rfl) (by kernel_rfl)
  · exact clone_at (z := List.replicate 2 (.int .i64 0)) Tryz.func21 rfl rfl rfl (enters_of (by kernel_rfl)) (by kernel_rfl) (by kernel_rfl) (by kernel_rfl)
  · exact clone_at (z := [.int .i64 0]) Tryz.func27 rfl rfl rfl (enters_of (by kernel_rfl)) (by kernel_rfl) (by kernel_rfl) (by kernel_rfl)
  · exact ints18.1
  · exact ints18.2

theorem tabOk0 : TabOk Tryz.prog N4.gl N4.tab N4.ext := tab_ofE mixed chk_all tab_ge clones_all N4.exts_ok
theorem ext44_ok : ExtOk Tryz.prog N4.gl 44 N4.ext44 := by
  refine ext_of tabOk0 (enters_of (by kernel_rfl)) fun a m r m' h => ⟨2000000, 90, ?_⟩
  unfold N4.ext44 at h
  split at h
  · split at h
    · rename_i n j ob rest
      cases h1 : n.beq 5 && j.beq 4 with
      | true =>
        rw [h1] at h
        simp only [Bool.and_eq_true] at h1
        obtain rfl := Nat.eq_of_beq_eq_true h1.1
        obtain rfl := Nat.eq_of_beq_eq_true h1.2
        cases h
        exact N4.beg5 ob rest
      | false =>
        rw [h1] at h
        cases h2 : n.beq 21 && j.beq 20 with
        | true =>
          rw [h2] at h
          simp only [Bool.and_eq_true] at h2
          obtain rfl := Nat.eq_of_beq_eq_true h2.1
          obtain rfl := Nat.eq_of_beq_eq_true h2.2
          cases h
          exact N4.beg21 ob rest
        | false => rw [h2] at h; cases h
    · cases h
  · cases h
theorem exts3_ok : ∀ f h, N4.ext3 f = some h → ExtOk Tryz.prog N4.gl f h := by
  intro f h e
  unfold N4.ext3 at e
  cases h1 : f.beq 44 with
  | true =>
    rw [h1] at e; cases e
    obtain rfl := Nat.eq_of_beq_eq_true h1
    exact ext44_ok
  | false => rw [h1] at e; exact N4.exts_ok f h e
theorem tabOk : TabOk Tryz.prog N4.gl N4.tab N4.ext3 := tab_ofE mixed chk_all tab_ge clones_all exts3_ok

/-! What lies in the world. -/
theorem gActs : Tryz.prog.globalNamed "mulligan/tower.acts" = some 0 := by kernel_rfl
theorem gForms : Tryz.prog.globalNamed "mulligan/script.forms" = some 1 := by kernel_rfl
theorem gFlag : Tryz.prog.globalNamed "mulligan/state.flag" = some 6 := by kernel_rfl
theorem gAny : Tryz.prog.globalNamed "mulligan/state.any" = some 7 := by kernel_rfl

theorem dataOf {W : World} (h : laidMetH Tryz.prog Rows.towerNilRow.laid W) : laidMet Tryz.prog (Rows.towerNilRow.laid.filter fun x => x.2.handleName?.isNone) W := by
  unfold laidMetH at h
  split at h
  · rename_i e
    rw [show (Rows.towerNilRow.laid.filter fun x => x.2.handleName?.isSome) = [("mulligan/tower.acts", Rows.laid_mulligan_tower_acts)] from by kernel_rfl] at e
    cases e
  · exact h.1
theorem only {W : World} (name : String) (d : DataW Unit) (h : laidMetH Tryz.prog Rows.towerNilRow.laid W) (e : ((Rows.towerNilRow.laid.filter fun x => x.2.handleName?.isNone).filter fun x => x.1 == name) = [(name, d)]) : laidMet Tryz.prog [(name, d)] W := by
  have := (dataOf h).filter (fun x => x.1 == name)
  rw [e] at this
  exact this

theorem ne_of {ps : List PVal} (h : ps.isEmpty = false) : ps ≠ [] := fun e => by rw [e] at h; cases h
theorem globs_ok {W : World} (h : laidMetH Tryz.prog Rows.towerNilRow.laid W) : GlobOk N4.gl (ghW W) := by
  have t1 := glob_data (W := W) 5 gForms (t := 104) (by kernel_rfl) (d := Rows.laid_mulligan_script_forms) (ps := (N4.globs 1).getD []) (by kernel_rfl) (ne_of (by kernel_rfl)) (only _ _ h (by kernel_rfl))
  have t6 := glob_data (W := W) 5 gFlag (t := 180) (by kernel_rfl) (d := Rows.laid_mulligan_state_flag) (ps := (N4.globs 6).getD []) (by kernel_rfl) (ne_of (by kernel_rfl)) (only _ _ h (by kernel_rfl))
  have t7 := glob_data (W := W) 5 gAny (t := 180) (by kernel_rfl) (d := Rows.laid_mulligan_state_any) (ps := (N4.globs 7).getD []) (by kernel_rfl) (ne_of (by kernel_rfl)) (only _ _ h (by kernel_rfl))
  have hf : funcsAt Tryz.prog W "mulligan/tower.acts" _ := h.funcs (by
    refine List.mem_of_getElem? (i := 7) ?_
    rfl)
  have t0 := glob_funcs (W := W) 5 gActs (t := 82) (by kernel_rfl) (ps := (N4.globs 0).getD []) (by kernel_rfl) (ne_of (by kernel_rfl)) hf
  intro i cs hi
  match i, hi with
  | 0, hi => cases hi; exact t0
  | 1, hi => cases hi; exact t1
  | 2, hi => cases hi
  | 3, hi => cases hi
  | 4, hi => cases hi
  | 5, hi => cases hi
  | 6, hi => cases hi; exact t6
  | 7, hi => cases hi; exact t7
  | i + 8, hi => rw [glob_ge (i + 8) (by omega)] at hi; cases hi

/-! The arguments. -/
theorem c3 : Tryz.prog.cellsOf 3 = 1 := by kernel_rfl
theorem c41 : Tryz.prog.cellsOf 41 = 1 := by kernel_rfl
theorem c22 : Tryz.prog.cellsOf 22 = 1 := by kernel_rfl
theorem list_of4 {α : Type} : ∀ {l : List α}, l.length = 4 → ∃ a b c d, l = [a, b, c, d]
  | [a, b, c, d], _ => ⟨a, b, c, d, rfl⟩
/-- A decision that is read. -/
theorem rd_dec {H : Type} {enc : TypeId × Value → H} {W : World} (fuel : Nat) (cs : List Value) (x : DataW H × List MemPlace) (h : DataW.trod enc Tryz.prog W 0 (fun _ => true) true fuel 106 cs = some x) : Rd W (fun _ => True) cs := by
  obtain ⟨hl, xs, hx, hxl, n, hg⟩ := rd_fields Tryz.underlying106 h
  have h5 : cs.length = 5 := hl.trans (by kernel_rfl)
  obtain ⟨v0, v1, v2, v3, v4, rfl⟩ : ∃ v0 v1 v2 v3 v4, cs = [v0, v1, v2, v3, v4] := list_of5 h5
  obtain ⟨x0, x1, x2, x3, x4, rfl⟩ : ∃ x0 x1 x2 x3 x4, xs = [x0, x1, x2, x3, x4] := list_of5 hxl
  have g0 : DataW.trod enc Tryz.prog W 0 (fun _ => true) true n 3 (([v0, v1, v2, v3, v4].drop 0).take (Tryz.prog.cellsOf 3)) = some x0 := hg 0 _ rfl
  have g1 : DataW.trod enc Tryz.prog W 0 (fun _ => true) true n 3 (([v0, v1, v2, v3, v4].drop 1).take (Tryz.prog.cellsOf 3)) = some x1 := hg 1 _ rfl
  have g2 : DataW.trod enc Tryz.prog W 0 (fun _ => true) true n 3 (([v0, v1, v2, v3, v4].drop 2).take (Tryz.prog.cellsOf 3)) = some x2 := hg 2 _ rfl
  have g3 : DataW.trod enc Tryz.prog W 0 (fun _ => true) true n 3 (([v0, v1, v2, v3, v4].drop 3).take (Tryz.prog.cellsOf 3)) = some x3 := hg 3 _ rfl
  have g4 : DataW.trod enc Tryz.prog W 0 (fun _ => true) true n 41 (([v0, v1, v2, v3, v4].drop 4).take (Tryz.prog.cellsOf 41)) = some x4 := hg 4 _ rfl
  rw [c3] at g0 g1 g2 g3
  rw [c41] at g4
  have r0 := rd_int Tryz.underlying3 (cs := [v0]) (x := x0) g0
  have r1 := rd_int Tryz.underlying3 (cs := [v1]) (x := x1) g1
  have r2 := rd_int Tryz.underlying3 (cs := [v2]) (x := x2) g2
  have r3 := rd_int Tryz.underlying3 (cs := [v3]) (x := x3) g3
  have r4 := rd_slice (Q := fun _ ps => ∃ n, ps = [.int .i64 n]) Tryz.underlying41 (by rw [c3]; simp) (fun fuel cs x h => (rd_int Tryz.underlying3 h).imp fun ps ⟨n, e, _⟩ => ⟨n, e⟩) (cs := [v4]) (x := x4) g4
  exact (r0.append (r1.append (r2.append (r3.append r4)))).imp fun _ _ => trivial

/-- The law's argument. -/
theorem rd_args {H : Type} {enc : TypeId × Value → H} {W : World} {fuel : Nat} {cs : List Value} {x : DataW H × List MemPlace} (h : DataW.trod enc Tryz.prog W 0 (fun _ => true) true fuel 24 cs = some x) :
    cs.length = 4 ∧ Rd W (fun ps => ∃ k a b xs, ps = [.int .i64 k, .int .i64 a, .int .i64 b, .slice xs .no]) cs := by
  obtain ⟨hl, xs, hx, hxl, n, hg⟩ := rd_fields Tryz.underlying24 h
  have h4 : cs.length = 4 := hl.trans (by kernel_rfl)
  obtain ⟨v0, v1, v2, v3, rfl⟩ : ∃ v0 v1 v2 v3, cs = [v0, v1, v2, v3] := list_of4 h4
  obtain ⟨x0, x1, x2, x3, rfl⟩ : ∃ x0 x1 x2 x3, xs = [x0, x1, x2, x3] := list_of4 hxl
  have g0 : DataW.trod enc Tryz.prog W 0 (fun _ => true) true n 3 (([v0, v1, v2, v3].drop 0).take (Tryz.prog.cellsOf 3)) = some x0 := hg 0 _ rfl
  have g1 : DataW.trod enc Tryz.prog W 0 (fun _ => true) true n 3 (([v0, v1, v2, v3].drop 1).take (Tryz.prog.cellsOf 3)) = some x1 := hg 1 _ rfl
  have g2 : DataW.trod enc Tryz.prog W 0 (fun _ => true) true n 3 (([v0, v1, v2, v3].drop 2).take (Tryz.prog.cellsOf 3)) = some x2 := hg 2 _ rfl
  have g3 : DataW.trod enc Tryz.prog W 0 (fun _ => true) true n 22 (([v0, v1, v2, v3].drop 3).take (Tryz.prog.cellsOf 22)) = some x3 := hg 3 _ rfl
  rw [c3] at g0 g1 g2
  rw [c22] at g3
  have c106 : Tryz.prog.cellsOf 106 ≠ 0 := by
    have : Tryz.prog.cellsOf 106 = 5 := by kernel_rfl
    rw [this]; simp
  have r0 := rd_int Tryz.underlying3 (cs := [v0]) (x := x0) g0
  have r1 := rd_int Tryz.underlying3 (cs := [v1]) (x := x1) g1
  have r2 := rd_int Tryz.underlying3 (cs := [v2]) (x := x2) g2
  have r3 := rd_slice (Q := fun _ _ => True) Tryz.underlying22 c106 (fun fuel cs x h => rd_dec fuel cs x h) (cs := [v3]) (x := x3) g3
  refine ⟨rfl, (r0.append (r1.append (r2.append r3))).imp fun ps hp => ?_⟩
  obtain ⟨_, _, rfl, ⟨k, rfl, _⟩, _, _, rfl, ⟨a, rfl, _⟩, _, _, rfl, ⟨b, rfl, _⟩, xs, rfl, _⟩ := hp
  exact ⟨k, a, b, xs, rfl⟩

end Go.Proofs.YtjfbcoheihcngaaGreatDoor.towerNil

/- TowerNil: what the law does, for every argument: true, and nothing that lay there is changed. -/
namespace Go.Proofs.YtjfbcoheihcngaaGreatDoor.towerNil
open Go.ChangeShapes Go.WideShapes Go.ChangeAt Go.RowKit Go.Ev

theorem laidOut : laidOutB Tryz.prog = true := by kernel_rfl
theorem rowed : mapsRowed Tryz.prog = true := by kernel_rfl
theorem full : ∀ t e, t < Tryz.prog.types.size → Tryz.prog.underlying t = some (.slice e) → 0 < Tryz.prog.cellsOf e := slices_full_of Tryz.prog (by kernel_rfl)
theorem rows24 : (24 : Nat) < Tryz.prog.types.size := of_decide_eq_true (by kernel_rfl)
theorem agg_of {v : Value} (h : v.cells.toList.length = 4) : ∃ cs, v = .agg cs := by
  cases v <;> first | exact ⟨_, rfl⟩ | (simp [Value.cells] at h)

set_option maxRecDepth 100000 in
/-- WHAT THE LAW DOES, FOR EVERY ARGUMENT AND EVERY WORLD THAT HOLDS THE TABLES. -/
theorem contract (H : Type) (enc : TypeId × Value → H) (W : World) (args : Array Value) (ds gs : List (DataW H)) (before : List MemPlace)
    (hW : DataW.Whole enc Tryz.prog Tryz.f3.params.toList (OpenSpec.ofChange Rows.towerNilSpec).vars false W args.toList ds gs before) (hL : laidMetH Tryz.prog Rows.towerNilRow.laid W) :
    Calls Tryz.prog 3 args W fun e W' => ∃ v, e = .returned v ∧ Rows.towerNilSpec.post enc Tryz.prog Tryz.f3 false true false false W args v W' := by
  have hW' := hW
  obtain ⟨p, q, hA0, hV, rfl, hfz, hnd⟩ := hW
  have hA : DataW.TrodAll enc Tryz.prog W 0 (fun _ => true) true Tryz.f3.params.toList args.toList ds p := hA0
  have hA1 := hA
  rw [Tryz.params3] at hA
  obtain ⟨v0, vs0, d0, ds0, p0, q0, hargs, rfl, rfl, h0, r0⟩ := trodAll_cons hA
  obtain ⟨rfl, rfl, rfl⟩ := trodAll_nil r0
  obtain rfl : args = #[v0] := by cases args; simp_all
  obtain ⟨rfl, rfl⟩ := trodVars_none hV
  obtain ⟨fuel, hf⟩ := h0
  obtain ⟨hl4, ps, hpl, ⟨k, a, b, xs, rfl⟩, hfl, hget⟩ := rd_args hf
  obtain ⟨cs, rfl⟩ := agg_of hl4
  have hev := N4.law k a b xs
  have hvr : VR (ghW W) (.agg [.int .i64 k, .int .i64 a, .int .i64 b, .slice xs .no]) (.agg cs) := by
    refine .agg (by have h5 : 4 = (Value.agg cs).cells.toList.length := hpl; rw [Array.length_toList] at h5; exact h5) (fun c hc => flat_cell (hfl c hc)) fun i c hi => ?_
    obtain ⟨v, hv, hvr⟩ := hget i c hi
    have : cs.getD i undef = v := getD_of (by simpa [Value.cells] using hv)
    rw [this]; exact hvr
  have hcl : ∀ j, clV (.agg [.int .i64 k, .int .i64 a, .int .i64 b, .slice xs .no]) (.agg cs) j = 0 := fun j => by
    have := clV_nz1 (.agg [.int .i64 k, .int .i64 a, .int .i64 b, .slice xs .no]) (.agg cs) j
    exact this
  have hown : OwnOk (ghW W) (.agg [.int .i64 k, .int .i64 a, .int .i64 b, .slice xs .no]) (.agg cs) := by
    have := OwnOk_nz1 (ghW W) (.agg [.int .i64 k, .int .i64 a, .int .i64 b, .slice xs .no]) (.agg cs)
    exact this
  have walk := law_calls tabOk hev (W := W) (vs := [.agg cs]) (globs_ok hL) (.cons ⟨hvr, hown⟩ .nil) (fun j => by
    simp only [clA]
    rw [hcl])
  refine Calls.mono (show Calls Tryz.prog 3 #[.agg cs] W _ from walk) fun e W' ⟨he, hsame, hg⟩ => ?_
  subst he
  have hts : ∀ t, t ∈ Tryz.f3.params.toList → t < Tryz.prog.types.size := fun t ht => by
    rw [Tryz.params3] at ht
    simp only [List.mem_cons, List.not_mem_nil, or_false] at ht
    subst ht
    exact rows24
  exact ⟨_, rfl, post_of_same (pa := _) (pv := []) hW' (fun _ _ _ => trodAll_cons_mk (shut_bool Tryz.underlying4 _) trodAll_mk0) (fun sp hsp => trod_again laidOut rowed full hsame hts hA1 (fun x hx => hsp x (by simpa using hx))) (fun _ _ => rfl) rfl
    (hg.frame _) hg.2.1 (ok_one (by kernel_rfl) rfl (okWide_bool_mk Tryz.underlying4 _))⟩

end Go.Proofs.YtjfbcoheihcngaaGreatDoor.towerNil

