/- One of the texts that the proof of the law rests on: it has no condition of its own. -/
import Derived.Test.YtdnddpefaanalaaGreatDoorSyD
namespace Go.Ev.T3
open Go.Ev
set_option linter.unusedSimpArgs false
set_option maxHeartbeats 1000000 in
theorem r3big {call : CallF} {turn : List (List PVal)} {many stop most : Int} (h : 40 < turn.length ∨ 60 < most) : ∃ env, evOps globs call [o 10 (.fadd 0) [c 2], o 11 (.load false 1 false) [m 10], o 12 (.len 0) [m 11], o 13 (.bin .gtr) [m 12, n 40], o 14 .move [m 13], og 15 .move [c 1] 14 false, og 16 (.bin .gtr) [m 15, n 60] 14 false, o 17 .pick [m 14, .val (.bool true), m 16]] ⟨[(9, .bool false), (4, .bool false), (2, .ptr 0 0), (0, .agg [.slice turn .no, .int .i64 many, .int .i64 stop]), (1, .int .i64 most)], ML turn many stop⟩ = some ⟨env, ML turn many stop⟩ ∧ env.get 17 = some (.bool true) ∧ True := by
  by_cases h1 : 40 < turn.length
  · have h1 : ((40 : Int) < (turn.length : Int)) = True := by simp; omega
    simp only [R, o, og, c, n, m, f, sy_get, sy_del, sy_del0, sy_put, sy_put0, sy_mv, sy_cp, sy_val, sy_nil, sy_cons, sy_ops0, so_move, sg_move, so_pick, sg_pick, so_box, sg_box, so_len, sg_len, so_bin, sg_bin, so_un, sg_un, so_iface, sg_iface, so_call, sg_call, so_fadd, sg_fadd, so_load, sg_load, so_idxS, sg_idxS, so_append, sg_append, so_mkslice, sg_mkslice, so_mm, sg_mm, so_extract, sg_extract, so_assert, sg_assert, so_eqvI, sg_eqvI, so_store, sg_store, so_clone, sg_clone, so_fld, sg_fld, runOp, sy_wanted, sy_skip, sy_exit, sy_ret, sy_region, sy_seq, sy_cond, sy_block, sy_move, sy_pick, sy_bin, sy_len, sy_iface, sy_not, sy_eqvI, sy_call, sy_fadd, sy_faddE, sy_extract, sy_assert, sy_eql, sy_neq, sy_lss, sy_gtr, sy_geq, sy_mul, sy_add, sy_rem, nz_int, nz_bool, nz_slice, nz_ptr, nz_iface, nz_niliface, nz_agg, nz1_int, nz1_bool, nz1_slice, nz1_iface, nz1_niliface, nz1_agg, nz0_int, nz0_slice, fr_int, fr_bool, fr_slice, fr_ptr, fr_eptr, fr_iface, fr_niliface, fr_agg, fr_tuple, fl_int, sy_start0, sy_start, sy_isNil1, sy_isNil2, Option.bind_some, Option.map_some, Option.bind_none, Option.map_none, cond_true, cond_false, if_true, if_false, List.map_cons, List.map_nil, Nat.reduceEqDiff, reduceIte, sy_beq, decide_true, decide_false, Nat.reduceAdd, reduceCtorEq, gt_iff_lt, ge_iff_le, bb_tt, bb_tf, bb_ft, bb_ff, Bool.not_true, Bool.not_false, nz_tuple, List.getElem?_cons_zero, List.getElem?_cons_succ, Nat.zero_add, lo0, lo1, lo2, h1]
    exact ⟨_, rfl, rfl, trivial⟩
  · have h2 : (60 : Int) < most := by omega
    have h2 : ((60 : Int) < most) = True := eq_true h2
    have h1 : ((40 : Int) < (turn.length : Int)) = False := propext ⟨fun h => by omega, False.elim⟩
    simp only [R, o, og, c, n, m, f, sy_get, sy_del, sy_del0, sy_put, sy_put0, sy_mv, sy_cp, sy_val, sy_nil, sy_cons, sy_ops0, so_move, sg_move, so_pick, sg_pick, so_box, sg_box, so_len, sg_len, so_bin, sg_bin, so_un, sg_un, so_iface, sg_iface, so_call, sg_call, so_fadd, sg_fadd, so_load, sg_load, so_idxS, sg_idxS, so_append, sg_append, so_mkslice, sg_mkslice, so_mm, sg_mm, so_extract, sg_extract, so_assert, sg_assert, so_eqvI, sg_eqvI, so_store, sg_store, so_clone, sg_clone, so_fld, sg_fld, runOp, sy_wanted, sy_skip, sy_exit, sy_ret, sy_region, sy_seq, sy_cond, sy_block, sy_move, sy_pick, sy_bin, sy_len, sy_iface, sy_not, sy_eqvI, sy_call, sy_fadd, sy_faddE, sy_extract, sy_assert, sy_eql, sy_neq, sy_lss, sy_gtr, sy_geq, sy_mul, sy_add, sy_rem, nz_int, nz_bool, nz_slice, nz_ptr, nz_iface, nz_niliface, nz_agg, nz1_int, nz1_bool, nz1_slice, nz1_iface, nz1_niliface, nz1_agg, nz0_int, nz0_slice, fr_int, fr_bool, fr_slice, fr_ptr, fr_eptr, fr_iface, fr_niliface, fr_agg, fr_tuple, fl_int, sy_start0, sy_start, sy_isNil1, sy_isNil2, Option.bind_some, Option.map_some, Option.bind_none, Option.map_none, cond_true, cond_false, if_true, if_false, List.map_cons, List.map_nil, Nat.reduceEqDiff, reduceIte, sy_beq, decide_true, decide_false, Nat.reduceAdd, reduceCtorEq, gt_iff_lt, ge_iff_le, bb_tt, bb_tf, bb_ft, bb_ff, Bool.not_true, Bool.not_false, nz_tuple, List.getElem?_cons_zero, List.getElem?_cons_succ, Nat.zero_add, lo0, lo1, lo2, h1, h2]
    exact ⟨_, rfl, rfl, trivial⟩

set_option maxHeartbeats 1000000 in
theorem law_big (turn : List (List PVal)) (many stop most : Int) (h : 40 < turn.length ∨ 60 < most) :
    evFn globs tab noext 2000000 100 (.func 3 []) [.agg [.slice turn .no, .int .i64 many, .int .i64 stop], .int .i64 most] ⟨0, [], []⟩ = some (.bool true, ⟨0, [], []⟩) := by
  obtain ⟨env, h3, hg, _⟩ := r3big (call := evFn globs tab noext 2000000 99) (many := many) (stop := stop) h
  have e0 : evCode globs (evFn globs tab noext 2000000 99) 2000000 (R [o 2 (.box false) [c 0], o 4 .move [.val (.bool false)]]) ⟨startEnv 0 [.agg [.slice turn .no, .int .i64 many, .int .i64 stop], .int .i64 most], ⟨0, [], []⟩⟩ = some (.normal, ⟨[(4, .bool false), (2, .ptr 0 0), (0, .agg [.slice turn .no, .int .i64 many, .int .i64 stop]), (1, .int .i64 most)], ML turn many stop⟩) := rfl
  have e1 : evCode globs (evFn globs tab noext 2000000 99) 2000000 (.seq (R [o 8 .call [f 4], o 9 (.un .not) [m 8]]) (.cond (c 9) (.seq (R [o 4 .move [.val (.bool false)]]) (.ret)) (.skip))) ⟨[(4, .bool false), (2, .ptr 0 0), (0, .agg [.slice turn .no, .int .i64 many, .int .i64 stop]), (1, .int .i64 most)], ML turn many stop⟩ = some (.normal, ⟨[(9, .bool false), (4, .bool false), (2, .ptr 0 0), (0, .agg [.slice turn .no, .int .i64 many, .int .i64 stop]), (1, .int .i64 most)], ML turn many stop⟩) := by
    have hc : core (evFn globs tab noext 2000000 99) .call [.func 4 []] (ML turn many stop) = some (.bool true, ML turn many stop) := by
      rw [sy_call]; exact alive4 _
    have h1 : evOps globs (evFn globs tab noext 2000000 99) [o 8 .call [f 4], o 9 (.un .not) [m 8]] ⟨[(4, .bool false), (2, .ptr 0 0), (0, .agg [.slice turn .no, .int .i64 many, .int .i64 stop]), (1, .int .i64 most)], ML turn many stop⟩ = some ⟨[(9, .bool false), (4, .bool false), (2, .ptr 0 0), (0, .agg [.slice turn .no, .int .i64 many, .int .i64 stop]), (1, .int .i64 most)], ML turn many stop⟩ := by
      have r1 : runOp globs (evFn globs tab noext 2000000 99) (some 8) .call [f 4] ⟨[(4, .bool false), (2, .ptr 0 0), (0, .agg [.slice turn .no, .int .i64 many, .int .i64 stop]), (1, .int .i64 most)], ML turn many stop⟩ = some ⟨(8, .bool true) :: [(4, .bool false), (2, .ptr 0 0), (0, .agg [.slice turn .no, .int .i64 many, .int .i64 stop]), (1, .int .i64 most)], ML turn many stop⟩ := by
        have e : opds globs [f 4] [(4, .bool false), (2, .ptr 0 0), (0, .agg [.slice turn .no, .int .i64 many, .int .i64 stop]), (1, .int .i64 most)] = some ([.func 4 []], [(4, .bool false), (2, .ptr 0 0), (0, .agg [.slice turn .no, .int .i64 many, .int .i64 stop]), (1, .int .i64 most)]) := rfl
        simp only [runOp, e, Option.bind_some, hc, fr_bool, cond_false]
        rfl
      rw [so_call, r1]
      rfl
    exact seq_region h1 rfl
  have e3 : evCode globs (evFn globs tab noext 2000000 99) 2000000 (.seq (R [o 10 (.fadd 0) [c 2], o 11 (.load false 1 false) [m 10], o 12 (.len 0) [m 11], o 13 (.bin .gtr) [m 12, n 40], o 14 .move [m 13], og 15 .move [c 1] 14 false, og 16 (.bin .gtr) [m 15, n 60] 14 false, o 17 .pick [m 14, .val (.bool true), m 16]]) (.cond (c 17) (.seq (R [o 4 .move [.val (.bool true)]]) (.ret)) (.skip))) ⟨[(9, .bool false), (4, .bool false), (2, .ptr 0 0), (0, .agg [.slice turn .no, .int .i64 many, .int .i64 stop]), (1, .int .i64 most)], ML turn many stop⟩ = some (.ret, ⟨(4, .bool true) :: env.del 4, ML turn many stop⟩) := by
    refine seq_region h3 ?_
    have ho : opd globs (c 17) env = some (.bool true, env) := by
      simp only [c, sy_cp, hg, Option.bind_some, fr_bool, cond_false, nz_bool]
    rw [sy_cond, ho]
    rfl
  have seq_ret : ∀ (a b : MCode) (s s1 : MSt), evCode globs (evFn globs tab noext 2000000 99) 2000000 a s = some (.ret, s1) → evCode globs (evFn globs tab noext 2000000 99) 2000000 (.seq a b) s = some (.ret, s1) := fun a b s s1 h => by
    rw [sy_seq, h]; rfl
  have hall : evCode globs (evFn globs tab noext 2000000 99) 2000000 mc3.body ⟨startEnv 0 [.agg [.slice turn .no, .int .i64 many, .int .i64 stop], .int .i64 most], ⟨0, [], []⟩⟩ = some (.ret, ⟨(4, .bool true) :: env.del 4, ML turn many stop⟩) :=
    seq_of e0 (seq_of e1 (seq_ret _ _ _ _ e3))
  rw [sy_fn t3, hall]
  rfl
end Go.Ev.T3

