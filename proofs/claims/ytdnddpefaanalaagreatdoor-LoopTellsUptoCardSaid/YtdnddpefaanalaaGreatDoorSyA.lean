/- One of the texts that the proof of the law rests on: it has no condition of its own. -/
import Derived.Test.YtdnddpefaanalaaGreatDoorMc
import Derived.Test.YtdnddpefaanalaaGreatDoorSy
import Derived.Laws.BitsLemmas
namespace Go.Ev.T3
open Go.Ev
set_option linter.unusedSimpArgs false
section
variable {L : Nat}
theorem t8 : tab 8 = some mc8 := rfl
theorem t9 : tab 9 = some mc9 := rfl

def chk (n : Nat) (many : Int) : Int := if n = 0 then 2 else if 16 < n then 19 else if many < 1 ∨ 1000000 < many then 1 else 0
def chkE (n : Nat) (many : Int) : PVal := if chk n many = 0 then .niliface else .iface 52 (.int .i64 (chk n many))

set_option maxHeartbeats 4000000 in
theorem check_ok (k : Nat) (xs : List (List PVal)) (cp : Cap) (many : Int) (mm : Mem) : evFn globs tab noext L (k + 1) (.func 8 []) [.slice xs cp, .int .i64 many] mm = some (chkE xs.length many, mm) := by
  by_cases h1 : xs.length = 0
  · have h1' : ((xs.length : Int) == 0) = true := by simp [h1]
    rw [show chkE xs.length many = _ from by simp only [chkE, chk, h1]; rfl]
    refine sy_ex 4 t8 rfl rfl rfl ?_ rfl
    simp only [mc8, R, o, og, c, n, m, sy_get, sy_del, sy_del0, sy_put, sy_put0, sy_mv, sy_cp, sy_val, sy_nil, sy_cons, sy_ops0, so_move, sg_move, so_pick, sg_pick, so_box, sg_box, so_len, sg_len, so_bin, sg_bin, so_un, sg_un, so_iface, sg_iface, so_call, sg_call, so_fadd, sg_fadd, so_load, sg_load, so_idxS, sg_idxS, so_append, sg_append, so_mkslice, sg_mkslice, so_mm, sg_mm, so_extract, sg_extract, so_assert, sg_assert, so_eqvI, sg_eqvI, so_store, sg_store, so_clone, sg_clone, so_fld, sg_fld, runOp, sy_wanted, sy_skip, sy_exit, sy_ret, sy_region, sy_seq, sy_cond, sy_block, sy_move, sy_pick, sy_bin, sy_len, sy_iface, sy_not, sy_eqvI, sy_call, sy_mm, sy_fadd, sy_faddE, sy_load, sy_box, sy_idxS, sy_extract, sy_assert, sy_eql, sy_neq, sy_lss, sy_gtr, sy_geq, sy_mul, sy_add, sy_rem, nz_int, nz_bool, nz_slice, nz_ptr, nz_iface, nz_niliface, nz_agg, nz1_int, nz1_bool, nz1_slice, nz1_iface, nz1_niliface, nz1_agg, nz0_int, nz0_slice, fr_int, fr_bool, fr_slice, fr_ptr, fr_eptr, fr_iface, fr_niliface, fr_agg, fr_tuple, fl_int, sy_start0, sy_start, sy_isNil1, sy_isNil2, Option.bind_some, Option.map_some, Option.bind_none, Option.map_none, cond_true, cond_false, if_true, if_false, List.map_cons, List.map_nil, Nat.reduceEqDiff, reduceIte, sy_beq, decide_true, decide_false, Nat.reduceAdd, reduceCtorEq, gt_iff_lt, ge_iff_le, bb_tt, bb_tf, bb_ft, bb_ff, Bool.not_true, Bool.not_false, h1']
    exact ⟨_, _, _, rfl, .inl rfl, rfl, rfl, rfl, rfl⟩
  · have h1' : ((xs.length : Int) == 0) = false := by simpa using h1
    by_cases h2 : 16 < xs.length
    · have h2' : ((16 : Int) < (xs.length : Int)) = True := by simp; omega
      rw [show chkE xs.length many = _ from by simp only [chkE, chk, h1, h2, if_true, if_false]; rfl]
      refine sy_ex 4 t8 rfl rfl rfl ?_ rfl
      simp only [mc8, R, o, og, c, n, m, sy_get, sy_del, sy_del0, sy_put, sy_put0, sy_mv, sy_cp, sy_val, sy_nil, sy_cons, sy_ops0, so_move, sg_move, so_pick, sg_pick, so_box, sg_box, so_len, sg_len, so_bin, sg_bin, so_un, sg_un, so_iface, sg_iface, so_call, sg_call, so_fadd, sg_fadd, so_load, sg_load, so_idxS, sg_idxS, so_append, sg_append, so_mkslice, sg_mkslice, so_mm, sg_mm, so_extract, sg_extract, so_assert, sg_assert, so_eqvI, sg_eqvI, so_store, sg_store, so_clone, sg_clone, so_fld, sg_fld, runOp, sy_wanted, sy_skip, sy_exit, sy_ret, sy_region, sy_seq, sy_cond, sy_block, sy_move, sy_pick, sy_bin, sy_len, sy_iface, sy_not, sy_eqvI, sy_call, sy_mm, sy_fadd, sy_faddE, sy_load, sy_box, sy_idxS, sy_extract, sy_assert, sy_eql, sy_neq, sy_lss, sy_gtr, sy_geq, sy_mul, sy_add, sy_rem, nz_int, nz_bool, nz_slice, nz_ptr, nz_iface, nz_niliface, nz_agg, nz1_int, nz1_bool, nz1_slice, nz1_iface, nz1_niliface, nz1_agg, nz0_int, nz0_slice, fr_int, fr_bool, fr_slice, fr_ptr, fr_eptr, fr_iface, fr_niliface, fr_agg, fr_tuple, fl_int, sy_start0, sy_start, sy_isNil1, sy_isNil2, Option.bind_some, Option.map_some, Option.bind_none, Option.map_none, cond_true, cond_false, if_true, if_false, List.map_cons, List.map_nil, Nat.reduceEqDiff, reduceIte, sy_beq, decide_true, decide_false, Nat.reduceAdd, reduceCtorEq, gt_iff_lt, ge_iff_le, bb_tt, bb_tf, bb_ft, bb_ff, Bool.not_true, Bool.not_false, h1', h2']
      exact ⟨_, _, _, rfl, .inl rfl, rfl, rfl, rfl, rfl⟩
    · have h2' : ((16 : Int) < (xs.length : Int)) = False := by simp; omega
      by_cases h3 : many < 1
      · rw [show chkE xs.length many = _ from by simp only [chkE, chk, h1, h2, h3, if_true, if_false, true_or]; rfl]
        refine sy_ex 4 t8 rfl rfl rfl ?_ rfl
        simp only [mc8, R, o, og, c, n, m, sy_get, sy_del, sy_del0, sy_put, sy_put0, sy_mv, sy_cp, sy_val, sy_nil, sy_cons, sy_ops0, so_move, sg_move, so_pick, sg_pick, so_box, sg_box, so_len, sg_len, so_bin, sg_bin, so_un, sg_un, so_iface, sg_iface, so_call, sg_call, so_fadd, sg_fadd, so_load, sg_load, so_idxS, sg_idxS, so_append, sg_append, so_mkslice, sg_mkslice, so_mm, sg_mm, so_extract, sg_extract, so_assert, sg_assert, so_eqvI, sg_eqvI, so_store, sg_store, so_clone, sg_clone, so_fld, sg_fld, runOp, sy_wanted, sy_skip, sy_exit, sy_ret, sy_region, sy_seq, sy_cond, sy_block, sy_move, sy_pick, sy_bin, sy_len, sy_iface, sy_not, sy_eqvI, sy_call, sy_mm, sy_fadd, sy_faddE, sy_load, sy_box, sy_idxS, sy_extract, sy_assert, sy_eql, sy_neq, sy_lss, sy_gtr, sy_geq, sy_mul, sy_add, sy_rem, nz_int, nz_bool, nz_slice, nz_ptr, nz_iface, nz_niliface, nz_agg, nz1_int, nz1_bool, nz1_slice, nz1_iface, nz1_niliface, nz1_agg, nz0_int, nz0_slice, fr_int, fr_bool, fr_slice, fr_ptr, fr_eptr, fr_iface, fr_niliface, fr_agg, fr_tuple, fl_int, sy_start0, sy_start, sy_isNil1, sy_isNil2, Option.bind_some, Option.map_some, Option.bind_none, Option.map_none, cond_true, cond_false, if_true, if_false, List.map_cons, List.map_nil, Nat.reduceEqDiff, reduceIte, sy_beq, decide_true, decide_false, Nat.reduceAdd, reduceCtorEq, gt_iff_lt, ge_iff_le, bb_tt, bb_tf, bb_ft, bb_ff, Bool.not_true, Bool.not_false, h1', h2', h3]
        exact ⟨_, _, _, rfl, .inl rfl, rfl, rfl, rfl, rfl⟩
      · by_cases h4 : 1000000 < many
        · rw [show chkE xs.length many = _ from by simp only [chkE, chk, h1, h2, h3, h4, if_true, if_false, or_true]; rfl]
          refine sy_ex 4 t8 rfl rfl rfl ?_ rfl
          simp only [mc8, R, o, og, c, n, m, sy_get, sy_del, sy_del0, sy_put, sy_put0, sy_mv, sy_cp, sy_val, sy_nil, sy_cons, sy_ops0, so_move, sg_move, so_pick, sg_pick, so_box, sg_box, so_len, sg_len, so_bin, sg_bin, so_un, sg_un, so_iface, sg_iface, so_call, sg_call, so_fadd, sg_fadd, so_load, sg_load, so_idxS, sg_idxS, so_append, sg_append, so_mkslice, sg_mkslice, so_mm, sg_mm, so_extract, sg_extract, so_assert, sg_assert, so_eqvI, sg_eqvI, so_store, sg_store, so_clone, sg_clone, so_fld, sg_fld, runOp, sy_wanted, sy_skip, sy_exit, sy_ret, sy_region, sy_seq, sy_cond, sy_block, sy_move, sy_pick, sy_bin, sy_len, sy_iface, sy_not, sy_eqvI, sy_call, sy_mm, sy_fadd, sy_faddE, sy_load, sy_box, sy_idxS, sy_extract, sy_assert, sy_eql, sy_neq, sy_lss, sy_gtr, sy_geq, sy_mul, sy_add, sy_rem, nz_int, nz_bool, nz_slice, nz_ptr, nz_iface, nz_niliface, nz_agg, nz1_int, nz1_bool, nz1_slice, nz1_iface, nz1_niliface, nz1_agg, nz0_int, nz0_slice, fr_int, fr_bool, fr_slice, fr_ptr, fr_eptr, fr_iface, fr_niliface, fr_agg, fr_tuple, fl_int, sy_start0, sy_start, sy_isNil1, sy_isNil2, Option.bind_some, Option.map_some, Option.bind_none, Option.map_none, cond_true, cond_false, if_true, if_false, List.map_cons, List.map_nil, Nat.reduceEqDiff, reduceIte, sy_beq, decide_true, decide_false, Nat.reduceAdd, reduceCtorEq, gt_iff_lt, ge_iff_le, bb_tt, bb_tf, bb_ft, bb_ff, Bool.not_true, Bool.not_false, h1', h2', h3, h4]
          exact ⟨_, _, _, rfl, .inl rfl, rfl, rfl, rfl, rfl⟩
        · rw [show chkE xs.length many = _ from by simp only [chkE, chk, h1, h2, h3, h4, if_true, if_false, or_self]; rfl]
          refine sy_ex 4 t8 rfl rfl rfl ?_ rfl
          simp only [mc8, R, o, og, c, n, m, sy_get, sy_del, sy_del0, sy_put, sy_put0, sy_mv, sy_cp, sy_val, sy_nil, sy_cons, sy_ops0, so_move, sg_move, so_pick, sg_pick, so_box, sg_box, so_len, sg_len, so_bin, sg_bin, so_un, sg_un, so_iface, sg_iface, so_call, sg_call, so_fadd, sg_fadd, so_load, sg_load, so_idxS, sg_idxS, so_append, sg_append, so_mkslice, sg_mkslice, so_mm, sg_mm, so_extract, sg_extract, so_assert, sg_assert, so_eqvI, sg_eqvI, so_store, sg_store, so_clone, sg_clone, so_fld, sg_fld, runOp, sy_wanted, sy_skip, sy_exit, sy_ret, sy_region, sy_seq, sy_cond, sy_block, sy_move, sy_pick, sy_bin, sy_len, sy_iface, sy_not, sy_eqvI, sy_call, sy_mm, sy_fadd, sy_faddE, sy_load, sy_box, sy_idxS, sy_extract, sy_assert, sy_eql, sy_neq, sy_lss, sy_gtr, sy_geq, sy_mul, sy_add, sy_rem, nz_int, nz_bool, nz_slice, nz_ptr, nz_iface, nz_niliface, nz_agg, nz1_int, nz1_bool, nz1_slice, nz1_iface, nz1_niliface, nz1_agg, nz0_int, nz0_slice, fr_int, fr_bool, fr_slice, fr_ptr, fr_eptr, fr_iface, fr_niliface, fr_agg, fr_tuple, fl_int, sy_start0, sy_start, sy_isNil1, sy_isNil2, Option.bind_some, Option.map_some, Option.bind_none, Option.map_none, cond_true, cond_false, if_true, if_false, List.map_cons, List.map_nil, Nat.reduceEqDiff, reduceIte, sy_beq, decide_true, decide_false, Nat.reduceAdd, reduceCtorEq, gt_iff_lt, ge_iff_le, bb_tt, bb_tf, bb_ft, bb_ff, Bool.not_true, Bool.not_false, h1', h2', h3, h4]
          exact ⟨_, _, _, rfl, .inl rfl, rfl, rfl, rfl, rfl⟩

set_option maxHeartbeats 4000000 in
theorem rcheck_ok (k : Nat) (xs : List (List PVal)) (cp : Cap) (many : Int) (mm : Mem) : evFn globs tab noext L (k + 1) (.func 9 []) [.slice xs cp, .int .i64 many] mm = some (.int .i64 (chk xs.length many), mm) := by
  by_cases h1 : xs.length = 0
  · have h1' : ((xs.length : Int) == 0) = true := by simp [h1]
    rw [show chk xs.length many = _ from by simp only [chk, h1]; rfl]
    refine sy_ex 4 t9 rfl rfl rfl ?_ rfl
    simp only [mc9, R, o, og, c, n, m, sy_get, sy_del, sy_del0, sy_put, sy_put0, sy_mv, sy_cp, sy_val, sy_nil, sy_cons, sy_ops0, so_move, sg_move, so_pick, sg_pick, so_box, sg_box, so_len, sg_len, so_bin, sg_bin, so_un, sg_un, so_iface, sg_iface, so_call, sg_call, so_fadd, sg_fadd, so_load, sg_load, so_idxS, sg_idxS, so_append, sg_append, so_mkslice, sg_mkslice, so_mm, sg_mm, so_extract, sg_extract, so_assert, sg_assert, so_eqvI, sg_eqvI, so_store, sg_store, so_clone, sg_clone, so_fld, sg_fld, runOp, sy_wanted, sy_skip, sy_exit, sy_ret, sy_region, sy_seq, sy_cond, sy_block, sy_move, sy_pick, sy_bin, sy_len, sy_iface, sy_not, sy_eqvI, sy_call, sy_mm, sy_fadd, sy_faddE, sy_load, sy_box, sy_idxS, sy_extract, sy_assert, sy_eql, sy_neq, sy_lss, sy_gtr, sy_geq, sy_mul, sy_add, sy_rem, nz_int, nz_bool, nz_slice, nz_ptr, nz_iface, nz_niliface, nz_agg, nz1_int, nz1_bool, nz1_slice, nz1_iface, nz1_niliface, nz1_agg, nz0_int, nz0_slice, fr_int, fr_bool, fr_slice, fr_ptr, fr_eptr, fr_iface, fr_niliface, fr_agg, fr_tuple, fl_int, sy_start0, sy_start, sy_isNil1, sy_isNil2, Option.bind_some, Option.map_some, Option.bind_none, Option.map_none, cond_true, cond_false, if_true, if_false, List.map_cons, List.map_nil, Nat.reduceEqDiff, reduceIte, sy_beq, decide_true, decide_false, Nat.reduceAdd, reduceCtorEq, gt_iff_lt, ge_iff_le, bb_tt, bb_tf, bb_ft, bb_ff, Bool.not_true, Bool.not_false, h1']
    exact ⟨_, _, _, rfl, .inl rfl, rfl, rfl, rfl, rfl⟩
  · have h1' : ((xs.length : Int) == 0) = false := by simpa using h1
    by_cases h2 : 16 < xs.length
    · have h2' : ((16 : Int) < (xs.length : Int)) = True := by simp; omega
      rw [show chk xs.length many = _ from by simp only [chk, h1, h2, if_true, if_false]; rfl]
      refine sy_ex 4 t9 rfl rfl rfl ?_ rfl
      simp only [mc9, R, o, og, c, n, m, sy_get, sy_del, sy_del0, sy_put, sy_put0, sy_mv, sy_cp, sy_val, sy_nil, sy_cons, sy_ops0, so_move, sg_move, so_pick, sg_pick, so_box, sg_box, so_len, sg_len, so_bin, sg_bin, so_un, sg_un, so_iface, sg_iface, so_call, sg_call, so_fadd, sg_fadd, so_load, sg_load, so_idxS, sg_idxS, so_append, sg_append, so_mkslice, sg_mkslice, so_mm, sg_mm, so_extract, sg_extract, so_assert, sg_assert, so_eqvI, sg_eqvI, so_store, sg_store, so_clone, sg_clone, so_fld, sg_fld, runOp, sy_wanted, sy_skip, sy_exit, sy_ret, sy_region, sy_seq, sy_cond, sy_block, sy_move, sy_pick, sy_bin, sy_len, sy_iface, sy_not, sy_eqvI, sy_call, sy_mm, sy_fadd, sy_faddE, sy_load, sy_box, sy_idxS, sy_extract, sy_assert, sy_eql, sy_neq, sy_lss, sy_gtr, sy_geq, sy_mul, sy_add, sy_rem, nz_int, nz_bool, nz_slice, nz_ptr, nz_iface, nz_niliface, nz_agg, nz1_int, nz1_bool, nz1_slice, nz1_iface, nz1_niliface, nz1_agg, nz0_int, nz0_slice, fr_int, fr_bool, fr_slice, fr_ptr, fr_eptr, fr_iface, fr_niliface, fr_agg, fr_tuple, fl_int, sy_start0, sy_start, sy_isNil1, sy_isNil2, Option.bind_some, Option.map_some, Option.bind_none, Option.map_none, cond_true, cond_false, if_true, if_false, List.map_cons, List.map_nil, Nat.reduceEqDiff, reduceIte, sy_beq, decide_true, decide_false, Nat.reduceAdd, reduceCtorEq, gt_iff_lt, ge_iff_le, bb_tt, bb_tf, bb_ft, bb_ff, Bool.not_true, Bool.not_false, h1', h2']
      exact ⟨_, _, _, rfl, .inl rfl, rfl, rfl, rfl, rfl⟩
    · have h2' : ((16 : Int) < (xs.length : Int)) = False := by simp; omega
      by_cases h3 : many < 1
      · rw [show chk xs.length many = _ from by simp only [chk, h1, h2, h3, if_true, if_false, true_or]; rfl]
        refine sy_ex 4 t9 rfl rfl rfl ?_ rfl
        simp only [mc9, R, o, og, c, n, m, sy_get, sy_del, sy_del0, sy_put, sy_put0, sy_mv, sy_cp, sy_val, sy_nil, sy_cons, sy_ops0, so_move, sg_move, so_pick, sg_pick, so_box, sg_box, so_len, sg_len, so_bin, sg_bin, so_un, sg_un, so_iface, sg_iface, so_call, sg_call, so_fadd, sg_fadd, so_load, sg_load, so_idxS, sg_idxS, so_append, sg_append, so_mkslice, sg_mkslice, so_mm, sg_mm, so_extract, sg_extract, so_assert, sg_assert, so_eqvI, sg_eqvI, so_store, sg_store, so_clone, sg_clone, so_fld, sg_fld, runOp, sy_wanted, sy_skip, sy_exit, sy_ret, sy_region, sy_seq, sy_cond, sy_block, sy_move, sy_pick, sy_bin, sy_len, sy_iface, sy_not, sy_eqvI, sy_call, sy_mm, sy_fadd, sy_faddE, sy_load, sy_box, sy_idxS, sy_extract, sy_assert, sy_eql, sy_neq, sy_lss, sy_gtr, sy_geq, sy_mul, sy_add, sy_rem, nz_int, nz_bool, nz_slice, nz_ptr, nz_iface, nz_niliface, nz_agg, nz1_int, nz1_bool, nz1_slice, nz1_iface, nz1_niliface, nz1_agg, nz0_int, nz0_slice, fr_int, fr_bool, fr_slice, fr_ptr, fr_eptr, fr_iface, fr_niliface, fr_agg, fr_tuple, fl_int, sy_start0, sy_start, sy_isNil1, sy_isNil2, Option.bind_some, Option.map_some, Option.bind_none, Option.map_none, cond_true, cond_false, if_true, if_false, List.map_cons, List.map_nil, Nat.reduceEqDiff, reduceIte, sy_beq, decide_true, decide_false, Nat.reduceAdd, reduceCtorEq, gt_iff_lt, ge_iff_le, bb_tt, bb_tf, bb_ft, bb_ff, Bool.not_true, Bool.not_false, h1', h2', h3]
        exact ⟨_, _, _, rfl, .inl rfl, rfl, rfl, rfl, rfl⟩
      · by_cases h4 : 1000000 < many
        · rw [show chk xs.length many = _ from by simp only [chk, h1, h2, h3, h4, if_true, if_false, or_true]; rfl]
          refine sy_ex 4 t9 rfl rfl rfl ?_ rfl
          simp only [mc9, R, o, og, c, n, m, sy_get, sy_del, sy_del0, sy_put, sy_put0, sy_mv, sy_cp, sy_val, sy_nil, sy_cons, sy_ops0, so_move, sg_move, so_pick, sg_pick, so_box, sg_box, so_len, sg_len, so_bin, sg_bin, so_un, sg_un, so_iface, sg_iface, so_call, sg_call, so_fadd, sg_fadd, so_load, sg_load, so_idxS, sg_idxS, so_append, sg_append, so_mkslice, sg_mkslice, so_mm, sg_mm, so_extract, sg_extract, so_assert, sg_assert, so_eqvI, sg_eqvI, so_store, sg_store, so_clone, sg_clone, so_fld, sg_fld, runOp, sy_wanted, sy_skip, sy_exit, sy_ret, sy_region, sy_seq, sy_cond, sy_block, sy_move, sy_pick, sy_bin, sy_len, sy_iface, sy_not, sy_eqvI, sy_call, sy_mm, sy_fadd, sy_faddE, sy_load, sy_box, sy_idxS, sy_extract, sy_assert, sy_eql, sy_neq, sy_lss, sy_gtr, sy_geq, sy_mul, sy_add, sy_rem, nz_int, nz_bool, nz_slice, nz_ptr, nz_iface, nz_niliface, nz_agg, nz1_int, nz1_bool, nz1_slice, nz1_iface, nz1_niliface, nz1_agg, nz0_int, nz0_slice, fr_int, fr_bool, fr_slice, fr_ptr, fr_eptr, fr_iface, fr_niliface, fr_agg, fr_tuple, fl_int, sy_start0, sy_start, sy_isNil1, sy_isNil2, Option.bind_some, Option.map_some, Option.bind_none, Option.map_none, cond_true, cond_false, if_true, if_false, List.map_cons, List.map_nil, Nat.reduceEqDiff, reduceIte, sy_beq, decide_true, decide_false, Nat.reduceAdd, reduceCtorEq, gt_iff_lt, ge_iff_le, bb_tt, bb_tf, bb_ft, bb_ff, Bool.not_true, Bool.not_false, h1', h2', h3, h4]
          exact ⟨_, _, _, rfl, .inl rfl, rfl, rfl, rfl, rfl⟩
        · rw [show chk xs.length many = _ from by simp only [chk, h1, h2, h3, h4, if_true, if_false, or_self]; rfl]
          refine sy_ex 4 t9 rfl rfl rfl ?_ rfl
          simp only [mc9, R, o, og, c, n, m, sy_get, sy_del, sy_del0, sy_put, sy_put0, sy_mv, sy_cp, sy_val, sy_nil, sy_cons, sy_ops0, so_move, sg_move, so_pick, sg_pick, so_box, sg_box, so_len, sg_len, so_bin, sg_bin, so_un, sg_un, so_iface, sg_iface, so_call, sg_call, so_fadd, sg_fadd, so_load, sg_load, so_idxS, sg_idxS, so_append, sg_append, so_mkslice, sg_mkslice, so_mm, sg_mm, so_extract, sg_extract, so_assert, sg_assert, so_eqvI, sg_eqvI, so_store, sg_store, so_clone, sg_clone, so_fld, sg_fld, runOp, sy_wanted, sy_skip, sy_exit, sy_ret, sy_region, sy_seq, sy_cond, sy_block, sy_move, sy_pick, sy_bin, sy_len, sy_iface, sy_not, sy_eqvI, sy_call, sy_mm, sy_fadd, sy_faddE, sy_load, sy_box, sy_idxS, sy_extract, sy_assert, sy_eql, sy_neq, sy_lss, sy_gtr, sy_geq, sy_mul, sy_add, sy_rem, nz_int, nz_bool, nz_slice, nz_ptr, nz_iface, nz_niliface, nz_agg, nz1_int, nz1_bool, nz1_slice, nz1_iface, nz1_niliface, nz1_agg, nz0_int, nz0_slice, fr_int, fr_bool, fr_slice, fr_ptr, fr_eptr, fr_iface, fr_niliface, fr_agg, fr_tuple, fl_int, sy_start0, sy_start, sy_isNil1, sy_isNil2, Option.bind_some, Option.map_some, Option.bind_none, Option.map_none, cond_true, cond_false, if_true, if_false, List.map_cons, List.map_nil, Nat.reduceEqDiff, reduceIte, sy_beq, decide_true, decide_false, Nat.reduceAdd, reduceCtorEq, gt_iff_lt, ge_iff_le, bb_tt, bb_tf, bb_ft, bb_ff, Bool.not_true, Bool.not_false, h1', h2', h3, h4]
          exact ⟨_, _, _, rfl, .inl rfl, rfl, rfl, rfl, rfl⟩

end
end Go.Ev.T3

namespace Go.Ev.T3
open Go.Ev
set_option linter.unusedSimpArgs false
section
variable {L : Nat}
theorem t5 : tab 5 = some mc5 := rfl
theorem t7 : tab 7 = some mc7 := rfl
theorem t10 : tab 10 = some mc10 := rfl
theorem t15 : tab 15 = some mc15 := rfl

set_option maxHeartbeats 4000000 in
theorem num_ok (k : Nat) (len : Nat) (many : Int) (mm : Mem) : evFn globs tab noext L (k + 1) (.func 7 []) [chkE len many] mm = some (.int .i64 (chk len many), mm) := by
  by_cases h : chk len many = 0
  · rw [show chkE len many = .niliface from by simp only [chkE, h, if_true]]
    rw [h]
    refine sy_ex 2 t7 rfl rfl rfl ?_ rfl
    simp only [mc7, R, o, og, c, n, m, f, sy_get, sy_del, sy_del0, sy_put, sy_put0, sy_mv, sy_cp, sy_val, sy_nil, sy_cons, sy_ops0, so_move, sg_move, so_pick, sg_pick, so_box, sg_box, so_len, sg_len, so_bin, sg_bin, so_un, sg_un, so_iface, sg_iface, so_call, sg_call, so_fadd, sg_fadd, so_load, sg_load, so_idxS, sg_idxS, so_append, sg_append, so_mkslice, sg_mkslice, so_mm, sg_mm, so_extract, sg_extract, so_assert, sg_assert, so_eqvI, sg_eqvI, so_store, sg_store, so_clone, sg_clone, so_fld, sg_fld, runOp, sy_wanted, sy_skip, sy_exit, sy_ret, sy_region, sy_seq, sy_cond, sy_block, sy_move, sy_pick, sy_bin, sy_len, sy_iface, sy_not, sy_eqvI, sy_call, sy_mm, sy_fadd, sy_faddE, sy_load, sy_box, sy_idxS, sy_extract, sy_assert, sy_eql, sy_neq, sy_lss, sy_gtr, sy_geq, sy_mul, sy_add, sy_rem, nz_int, nz_bool, nz_slice, nz_ptr, nz_iface, nz_niliface, nz_agg, nz1_int, nz1_bool, nz1_slice, nz1_iface, nz1_niliface, nz1_agg, nz0_int, nz0_slice, fr_int, fr_bool, fr_slice, fr_ptr, fr_eptr, fr_iface, fr_niliface, fr_agg, fr_tuple, fl_int, sy_start0, sy_start, sy_isNil1, sy_isNil2, Option.bind_some, Option.map_some, Option.bind_none, Option.map_none, cond_true, cond_false, if_true, if_false, List.map_cons, List.map_nil, Nat.reduceEqDiff, reduceIte, sy_beq, decide_true, decide_false, Nat.reduceAdd, reduceCtorEq, gt_iff_lt, ge_iff_le, bb_tt, bb_tf, bb_ft, bb_ff, Bool.not_true, Bool.not_false, nz_tuple, List.getElem?_cons_zero, List.getElem?_cons_succ, h]
    exact ⟨_, _, _, rfl, .inl rfl, rfl, rfl, rfl, rfl⟩
  · rw [show chkE len many = .iface 52 (.int .i64 (chk len many)) from by simp only [chkE, h, if_false]]
    have h1 : (chk len many != 0) = true := by simpa using h
    refine sy_ex 2 t7 rfl rfl rfl ?_ rfl
    simp only [mc7, R, o, og, c, n, m, f, sy_get, sy_del, sy_del0, sy_put, sy_put0, sy_mv, sy_cp, sy_val, sy_nil, sy_cons, sy_ops0, so_move, sg_move, so_pick, sg_pick, so_box, sg_box, so_len, sg_len, so_bin, sg_bin, so_un, sg_un, so_iface, sg_iface, so_call, sg_call, so_fadd, sg_fadd, so_load, sg_load, so_idxS, sg_idxS, so_append, sg_append, so_mkslice, sg_mkslice, so_mm, sg_mm, so_extract, sg_extract, so_assert, sg_assert, so_eqvI, sg_eqvI, so_store, sg_store, so_clone, sg_clone, so_fld, sg_fld, runOp, sy_wanted, sy_skip, sy_exit, sy_ret, sy_region, sy_seq, sy_cond, sy_block, sy_move, sy_pick, sy_bin, sy_len, sy_iface, sy_not, sy_eqvI, sy_call, sy_mm, sy_fadd, sy_faddE, sy_load, sy_box, sy_idxS, sy_extract, sy_assert, sy_eql, sy_neq, sy_lss, sy_gtr, sy_geq, sy_mul, sy_add, sy_rem, nz_int, nz_bool, nz_slice, nz_ptr, nz_iface, nz_niliface, nz_agg, nz1_int, nz1_bool, nz1_slice, nz1_iface, nz1_niliface, nz1_agg, nz0_int, nz0_slice, fr_int, fr_bool, fr_slice, fr_ptr, fr_eptr, fr_iface, fr_niliface, fr_agg, fr_tuple, fl_int, sy_start0, sy_start, sy_isNil1, sy_isNil2, Option.bind_some, Option.map_some, Option.bind_none, Option.map_none, cond_true, cond_false, if_true, if_false, List.map_cons, List.map_nil, Nat.reduceEqDiff, reduceIte, sy_beq, decide_true, decide_false, Nat.reduceAdd, reduceCtorEq, gt_iff_lt, ge_iff_le, bb_tt, bb_tf, bb_ft, bb_ff, Bool.not_true, Bool.not_false, nz_tuple, List.getElem?_cons_zero, List.getElem?_cons_succ, h1]
    exact ⟨_, _, _, rfl, .inl rfl, rfl, rfl, rfl, rfl⟩

def lenOf (n : Nat) (many stop : Int) : Int := if chk n many = 0 ∧ -1 ≤ stop then (if 0 ≤ stop ∧ stop < n * many then stop else n * many) else 0

theorem chk0 {n : Nat} {many : Int} (h : chk n many = 0) : 1 ≤ n ∧ n ≤ 16 ∧ 1 ≤ many ∧ many ≤ 1000000 := by
  unfold chk at h
  split at h
  · cases h
  · split at h
    · cases h
    · split at h
      · cases h
      · omega

theorem mul_small {n : Nat} {many : Int} (h : chk n many = 0) : 1 ≤ (n : Int) * many ∧ (n : Int) * many ≤ 16000000 := by
  obtain ⟨h1, h2, h3, h4⟩ := chk0 h
  constructor
  · have := Int.mul_le_mul (show (1 : Int) ≤ n by omega) h3 (by omega) (by omega)
    simpa using this
  · have := Int.mul_le_mul (show (n : Int) ≤ 16 by omega) h4 (by omega) (by omega)
    simpa using this

theorem wrap_small {x : Int} (h : 0 ≤ x) (h' : x ≤ 1000000000000) : IntKind.i64.wrap x = x := by
  rw [IntKind.wrap_i64]; omega

set_option maxHeartbeats 4000000 in
theorem rlen_ok (k : Nat) (xs : List (List PVal)) (cp : Cap) (many stop : Int) (mm : Mem) : evFn globs tab noext L (k + 1 + 1) (.func 5 []) [.slice xs cp, .int .i64 many, .int .i64 stop] mm = some (.int .i64 (lenOf xs.length many stop), mm) := by
  by_cases h : chk xs.length many = 0
  · have h1 : (chk xs.length many != 0) = false := by simpa using h
    have hw : IntKind.i64.wrap (xs.length * many) = xs.length * many := wrap_small (by have := mul_small h; omega) (by have := mul_small h; omega)
    by_cases h2 : stop < -1
    · rw [show lenOf xs.length many stop = 0 from by unfold lenOf; rw [if_neg (by omega)]]
      refine sy_ex 6 t5 rfl rfl rfl ?_ rfl
      simp only [mc5, R, o, og, c, n, m, f, sy_get, sy_del, sy_del0, sy_put, sy_put0, sy_mv, sy_cp, sy_val, sy_nil, sy_cons, sy_ops0, so_move, sg_move, so_pick, sg_pick, so_box, sg_box, so_len, sg_len, so_bin, sg_bin, so_un, sg_un, so_iface, sg_iface, so_call, sg_call, so_fadd, sg_fadd, so_load, sg_load, so_idxS, sg_idxS, so_append, sg_append, so_mkslice, sg_mkslice, so_mm, sg_mm, so_extract, sg_extract, so_assert, sg_assert, so_eqvI, sg_eqvI, so_store, sg_store, so_clone, sg_clone, so_fld, sg_fld, runOp, sy_wanted, sy_skip, sy_exit, sy_ret, sy_region, sy_seq, sy_cond, sy_block, sy_move, sy_pick, sy_bin, sy_len, sy_iface, sy_not, sy_eqvI, sy_call, sy_mm, sy_fadd, sy_faddE, sy_load, sy_box, sy_idxS, sy_extract, sy_assert, sy_eql, sy_neq, sy_lss, sy_gtr, sy_geq, sy_mul, sy_add, sy_rem, nz_int, nz_bool, nz_slice, nz_ptr, nz_iface, nz_niliface, nz_agg, nz1_int, nz1_bool, nz1_slice, nz1_iface, nz1_niliface, nz1_agg, nz0_int, nz0_slice, fr_int, fr_bool, fr_slice, fr_ptr, fr_eptr, fr_iface, fr_niliface, fr_agg, fr_tuple, fl_int, sy_start0, sy_start, sy_isNil1, sy_isNil2, Option.bind_some, Option.map_some, Option.bind_none, Option.map_none, cond_true, cond_false, if_true, if_false, List.map_cons, List.map_nil, Nat.reduceEqDiff, reduceIte, sy_beq, decide_true, decide_false, Nat.reduceAdd, reduceCtorEq, gt_iff_lt, ge_iff_le, bb_tt, bb_tf, bb_ft, bb_ff, Bool.not_true, Bool.not_false, nz_tuple, List.getElem?_cons_zero, List.getElem?_cons_succ, rcheck_ok, h1, h2, hw]
      exact ⟨_, _, _, rfl, .inl rfl, rfl, rfl, rfl, rfl⟩
    · by_cases h3 : 0 ≤ stop
      · by_cases h4 : stop < xs.length * many
        · rw [show lenOf xs.length many stop = stop from by unfold lenOf; rw [if_pos (by omega), if_pos ⟨h3, h4⟩]]
          refine sy_ex 6 t5 rfl rfl rfl ?_ rfl
          simp only [mc5, R, o, og, c, n, m, f, sy_get, sy_del, sy_del0, sy_put, sy_put0, sy_mv, sy_cp, sy_val, sy_nil, sy_cons, sy_ops0, so_move, sg_move, so_pick, sg_pick, so_box, sg_box, so_len, sg_len, so_bin, sg_bin, so_un, sg_un, so_iface, sg_iface, so_call, sg_call, so_fadd, sg_fadd, so_load, sg_load, so_idxS, sg_idxS, so_append, sg_append, so_mkslice, sg_mkslice, so_mm, sg_mm, so_extract, sg_extract, so_assert, sg_assert, so_eqvI, sg_eqvI, so_store, sg_store, so_clone, sg_clone, so_fld, sg_fld, runOp, sy_wanted, sy_skip, sy_exit, sy_ret, sy_region, sy_seq, sy_cond, sy_block, sy_move, sy_pick, sy_bin, sy_len, sy_iface, sy_not, sy_eqvI, sy_call, sy_mm, sy_fadd, sy_faddE, sy_load, sy_box, sy_idxS, sy_extract, sy_assert, sy_eql, sy_neq, sy_lss, sy_gtr, sy_geq, sy_mul, sy_add, sy_rem, nz_int, nz_bool, nz_slice, nz_ptr, nz_iface, nz_niliface, nz_agg, nz1_int, nz1_bool, nz1_slice, nz1_iface, nz1_niliface, nz1_agg, nz0_int, nz0_slice, fr_int, fr_bool, fr_slice, fr_ptr, fr_eptr, fr_iface, fr_niliface, fr_agg, fr_tuple, fl_int, sy_start0, sy_start, sy_isNil1, sy_isNil2, Option.bind_some, Option.map_some, Option.bind_none, Option.map_none, cond_true, cond_false, if_true, if_false, List.map_cons, List.map_nil, Nat.reduceEqDiff, reduceIte, sy_beq, decide_true, decide_false, Nat.reduceAdd, reduceCtorEq, gt_iff_lt, ge_iff_le, bb_tt, bb_tf, bb_ft, bb_ff, Bool.not_true, Bool.not_false, nz_tuple, List.getElem?_cons_zero, List.getElem?_cons_succ, rcheck_ok, h1, h2, h3, h4, hw]
          exact ⟨_, _, _, rfl, .inl rfl, rfl, rfl, rfl, rfl⟩
        · rw [show lenOf xs.length many stop = xs.length * many from by unfold lenOf; rw [if_pos (by omega), if_neg (by omega)]]
          refine sy_ex 6 t5 rfl rfl rfl ?_ rfl
          simp only [mc5, R, o, og, c, n, m, f, sy_get, sy_del, sy_del0, sy_put, sy_put0, sy_mv, sy_cp, sy_val, sy_nil, sy_cons, sy_ops0, so_move, sg_move, so_pick, sg_pick, so_box, sg_box, so_len, sg_len, so_bin, sg_bin, so_un, sg_un, so_iface, sg_iface, so_call, sg_call, so_fadd, sg_fadd, so_load, sg_load, so_idxS, sg_idxS, so_append, sg_append, so_mkslice, sg_mkslice, so_mm, sg_mm, so_extract, sg_extract, so_assert, sg_assert, so_eqvI, sg_eqvI, so_store, sg_store, so_clone, sg_clone, so_fld, sg_fld, runOp, sy_wanted, sy_skip, sy_exit, sy_ret, sy_region, sy_seq, sy_cond, sy_block, sy_move, sy_pick, sy_bin, sy_len, sy_iface, sy_not, sy_eqvI, sy_call, sy_mm, sy_fadd, sy_faddE, sy_load, sy_box, sy_idxS, sy_extract, sy_assert, sy_eql, sy_neq, sy_lss, sy_gtr, sy_geq, sy_mul, sy_add, sy_rem, nz_int, nz_bool, nz_slice, nz_ptr, nz_iface, nz_niliface, nz_agg, nz1_int, nz1_bool, nz1_slice, nz1_iface, nz1_niliface, nz1_agg, nz0_int, nz0_slice, fr_int, fr_bool, fr_slice, fr_ptr, fr_eptr, fr_iface, fr_niliface, fr_agg, fr_tuple, fl_int, sy_start0, sy_start, sy_isNil1, sy_isNil2, Option.bind_some, Option.map_some, Option.bind_none, Option.map_none, cond_true, cond_false, if_true, if_false, List.map_cons, List.map_nil, Nat.reduceEqDiff, reduceIte, sy_beq, decide_true, decide_false, Nat.reduceAdd, reduceCtorEq, gt_iff_lt, ge_iff_le, bb_tt, bb_tf, bb_ft, bb_ff, Bool.not_true, Bool.not_false, nz_tuple, List.getElem?_cons_zero, List.getElem?_cons_succ, rcheck_ok, h1, h2, h3, h4, hw]
          exact ⟨_, _, _, rfl, .inl rfl, rfl, rfl, rfl, rfl⟩
      · rw [show lenOf xs.length many stop = xs.length * many from by unfold lenOf; rw [if_pos (by omega), if_neg (by omega)]]
        refine sy_ex 6 t5 rfl rfl rfl ?_ rfl
        simp only [mc5, R, o, og, c, n, m, f, sy_get, sy_del, sy_del0, sy_put, sy_put0, sy_mv, sy_cp, sy_val, sy_nil, sy_cons, sy_ops0, so_move, sg_move, so_pick, sg_pick, so_box, sg_box, so_len, sg_len, so_bin, sg_bin, so_un, sg_un, so_iface, sg_iface, so_call, sg_call, so_fadd, sg_fadd, so_load, sg_load, so_idxS, sg_idxS, so_append, sg_append, so_mkslice, sg_mkslice, so_mm, sg_mm, so_extract, sg_extract, so_assert, sg_assert, so_eqvI, sg_eqvI, so_store, sg_store, so_clone, sg_clone, so_fld, sg_fld, runOp, sy_wanted, sy_skip, sy_exit, sy_ret, sy_region, sy_seq, sy_cond, sy_block, sy_move, sy_pick, sy_bin, sy_len, sy_iface, sy_not, sy_eqvI, sy_call, sy_mm, sy_fadd, sy_faddE, sy_load, sy_box, sy_idxS, sy_extract, sy_assert, sy_eql, sy_neq, sy_lss, sy_gtr, sy_geq, sy_mul, sy_add, sy_rem, nz_int, nz_bool, nz_slice, nz_ptr, nz_iface, nz_niliface, nz_agg, nz1_int, nz1_bool, nz1_slice, nz1_iface, nz1_niliface, nz1_agg, nz0_int, nz0_slice, fr_int, fr_bool, fr_slice, fr_ptr, fr_eptr, fr_iface, fr_niliface, fr_agg, fr_tuple, fl_int, sy_start0, sy_start, sy_isNil1, sy_isNil2, Option.bind_some, Option.map_some, Option.bind_none, Option.map_none, cond_true, cond_false, if_true, if_false, List.map_cons, List.map_nil, Nat.reduceEqDiff, reduceIte, sy_beq, decide_true, decide_false, Nat.reduceAdd, reduceCtorEq, gt_iff_lt, ge_iff_le, bb_tt, bb_tf, bb_ft, bb_ff, Bool.not_true, Bool.not_false, nz_tuple, List.getElem?_cons_zero, List.getElem?_cons_succ, rcheck_ok, h1, h2, h3, hw]
        exact ⟨_, _, _, rfl, .inl rfl, rfl, rfl, rfl, rfl⟩
  · have h1 : (chk xs.length many != 0) = true := by simpa using h
    rw [show lenOf xs.length many stop = 0 from by unfold lenOf; rw [if_neg (by omega)]]
    refine sy_ex 6 t5 rfl rfl rfl ?_ rfl
    simp only [mc5, R, o, og, c, n, m, f, sy_get, sy_del, sy_del0, sy_put, sy_put0, sy_mv, sy_cp, sy_val, sy_nil, sy_cons, sy_ops0, so_move, sg_move, so_pick, sg_pick, so_box, sg_box, so_len, sg_len, so_bin, sg_bin, so_un, sg_un, so_iface, sg_iface, so_call, sg_call, so_fadd, sg_fadd, so_load, sg_load, so_idxS, sg_idxS, so_append, sg_append, so_mkslice, sg_mkslice, so_mm, sg_mm, so_extract, sg_extract, so_assert, sg_assert, so_eqvI, sg_eqvI, so_store, sg_store, so_clone, sg_clone, so_fld, sg_fld, runOp, sy_wanted, sy_skip, sy_exit, sy_ret, sy_region, sy_seq, sy_cond, sy_block, sy_move, sy_pick, sy_bin, sy_len, sy_iface, sy_not, sy_eqvI, sy_call, sy_mm, sy_fadd, sy_faddE, sy_load, sy_box, sy_idxS, sy_extract, sy_assert, sy_eql, sy_neq, sy_lss, sy_gtr, sy_geq, sy_mul, sy_add, sy_rem, nz_int, nz_bool, nz_slice, nz_ptr, nz_iface, nz_niliface, nz_agg, nz1_int, nz1_bool, nz1_slice, nz1_iface, nz1_niliface, nz1_agg, nz0_int, nz0_slice, fr_int, fr_bool, fr_slice, fr_ptr, fr_eptr, fr_iface, fr_niliface, fr_agg, fr_tuple, fl_int, sy_start0, sy_start, sy_isNil1, sy_isNil2, Option.bind_some, Option.map_some, Option.bind_none, Option.map_none, cond_true, cond_false, if_true, if_false, List.map_cons, List.map_nil, Nat.reduceEqDiff, reduceIte, sy_beq, decide_true, decide_false, Nat.reduceAdd, reduceCtorEq, gt_iff_lt, ge_iff_le, bb_tt, bb_tf, bb_ft, bb_ff, Bool.not_true, Bool.not_false, nz_tuple, List.getElem?_cons_zero, List.getElem?_cons_succ, rcheck_ok, h1]
    exact ⟨_, _, _, rfl, .inl rfl, rfl, rfl, rfl, rfl⟩

theorem nil_chkE {n : Nat} {many : Int} : sameNilI (chkE n many) .niliface = some (decide (chk n many = 0)) := by
  unfold chkE
  by_cases h : chk n many = 0
  · simp [h, sy_isNil2]
  · simp [h, sy_isNil1]
theorem nz_chkE {n : Nat} {many : Int} : (chkE n many).nz = chkE n many ∧ (chkE n many).isFresh = false ∧ (chkE n many).nz1 = chkE n many := by
  unfold chkE; split <;> exact ⟨rfl, rfl, rfl⟩

set_option maxHeartbeats 4000000 in
theorem len_ok (k : Nat) (xs : List (List PVal)) (cp : Cap) (many stop : Int) (mm : Mem) : evFn globs tab noext L (k + 1 + 1) (.func 10 []) [.slice xs cp, .int .i64 many, .int .i64 stop] mm = some (.int .i64 (lenOf xs.length many stop), mm) := by
  have e1 := (nz_chkE (n := xs.length) (many := many)).2.1
  by_cases h : chk xs.length many = 0
  · have hw : IntKind.i64.wrap (xs.length * many) = xs.length * many := wrap_small (by have := mul_small h; omega) (by have := mul_small h; omega)
    by_cases h2 : stop < -1
    · rw [show lenOf xs.length many stop = 0 from by unfold lenOf; rw [if_neg (by omega)]]
      refine sy_ex 6 t10 rfl rfl rfl ?_ rfl
      simp only [mc10, R, o, og, c, n, m, f, sy_get, sy_del, sy_del0, sy_put, sy_put0, sy_mv, sy_cp, sy_val, sy_nil, sy_cons, sy_ops0, so_move, sg_move, so_pick, sg_pick, so_box, sg_box, so_len, sg_len, so_bin, sg_bin, so_un, sg_un, so_iface, sg_iface, so_call, sg_call, so_fadd, sg_fadd, so_load, sg_load, so_idxS, sg_idxS, so_append, sg_append, so_mkslice, sg_mkslice, so_mm, sg_mm, so_extract, sg_extract, so_assert, sg_assert, so_eqvI, sg_eqvI, so_store, sg_store, so_clone, sg_clone, so_fld, sg_fld, runOp, sy_wanted, sy_skip, sy_exit, sy_ret, sy_region, sy_seq, sy_cond, sy_block, sy_move, sy_pick, sy_bin, sy_len, sy_iface, sy_not, sy_eqvI, sy_call, sy_mm, sy_fadd, sy_faddE, sy_load, sy_box, sy_idxS, sy_extract, sy_assert, sy_eql, sy_neq, sy_lss, sy_gtr, sy_geq, sy_mul, sy_add, sy_rem, nz_int, nz_bool, nz_slice, nz_ptr, nz_iface, nz_niliface, nz_agg, nz1_int, nz1_bool, nz1_slice, nz1_iface, nz1_niliface, nz1_agg, nz0_int, nz0_slice, fr_int, fr_bool, fr_slice, fr_ptr, fr_eptr, fr_iface, fr_niliface, fr_agg, fr_tuple, fl_int, sy_start0, sy_start, sy_isNil1, sy_isNil2, Option.bind_some, Option.map_some, Option.bind_none, Option.map_none, cond_true, cond_false, if_true, if_false, List.map_cons, List.map_nil, Nat.reduceEqDiff, reduceIte, sy_beq, decide_true, decide_false, Nat.reduceAdd, reduceCtorEq, gt_iff_lt, ge_iff_le, bb_tt, bb_tf, bb_ft, bb_ff, Bool.not_true, Bool.not_false, nz_tuple, List.getElem?_cons_zero, List.getElem?_cons_succ, check_ok, nil_chkE, e1, h, h2, hw]
      exact ⟨_, _, _, rfl, .inl rfl, rfl, rfl, rfl, rfl⟩
    · by_cases h3 : 0 ≤ stop
      · by_cases h4 : stop < xs.length * many
        · rw [show lenOf xs.length many stop = stop from by unfold lenOf; rw [if_pos (by omega), if_pos ⟨h3, h4⟩]]
          refine sy_ex 6 t10 rfl rfl rfl ?_ rfl
          simp only [mc10, R, o, og, c, n, m, f, sy_get, sy_del, sy_del0, sy_put, sy_put0, sy_mv, sy_cp, sy_val, sy_nil, sy_cons, sy_ops0, so_move, sg_move, so_pick, sg_pick, so_box, sg_box, so_len, sg_len, so_bin, sg_bin, so_un, sg_un, so_iface, sg_iface, so_call, sg_call, so_fadd, sg_fadd, so_load, sg_load, so_idxS, sg_idxS, so_append, sg_append, so_mkslice, sg_mkslice, so_mm, sg_mm, so_extract, sg_extract, so_assert, sg_assert, so_eqvI, sg_eqvI, so_store, sg_store, so_clone, sg_clone, so_fld, sg_fld, runOp, sy_wanted, sy_skip, sy_exit, sy_ret, sy_region, sy_seq, sy_cond, sy_block, sy_move, sy_pick, sy_bin, sy_len, sy_iface, sy_not, sy_eqvI, sy_call, sy_mm, sy_fadd, sy_faddE, sy_load, sy_box, sy_idxS, sy_extract, sy_assert, sy_eql, sy_neq, sy_lss, sy_gtr, sy_geq, sy_mul, sy_add, sy_rem, nz_int, nz_bool, nz_slice, nz_ptr, nz_iface, nz_niliface, nz_agg, nz1_int, nz1_bool, nz1_slice, nz1_iface, nz1_niliface, nz1_agg, nz0_int, nz0_slice, fr_int, fr_bool, fr_slice, fr_ptr, fr_eptr, fr_iface, fr_niliface, fr_agg, fr_tuple, fl_int, sy_start0, sy_start, sy_isNil1, sy_isNil2, Option.bind_some, Option.map_some, Option.bind_none, Option.map_none, cond_true, cond_false, if_true, if_false, List.map_cons, List.map_nil, Nat.reduceEqDiff, reduceIte, sy_beq, decide_true, decide_false, Nat.reduceAdd, reduceCtorEq, gt_iff_lt, ge_iff_le, bb_tt, bb_tf, bb_ft, bb_ff, Bool.not_true, Bool.not_false, nz_tuple, List.getElem?_cons_zero, List.getElem?_cons_succ, check_ok, nil_chkE, e1, h, h2, h3, h4, hw, mmI]
          exact ⟨_, _, _, rfl, .inl rfl, rfl, rfl, rfl, rfl⟩
        · rw [show lenOf xs.length many stop = xs.length * many from by unfold lenOf; rw [if_pos (by omega), if_neg (by omega)]]
          refine sy_ex 6 t10 rfl rfl rfl ?_ rfl
          simp only [mc10, R, o, og, c, n, m, f, sy_get, sy_del, sy_del0, sy_put, sy_put0, sy_mv, sy_cp, sy_val, sy_nil, sy_cons, sy_ops0, so_move, sg_move, so_pick, sg_pick, so_box, sg_box, so_len, sg_len, so_bin, sg_bin, so_un, sg_un, so_iface, sg_iface, so_call, sg_call, so_fadd, sg_fadd, so_load, sg_load, so_idxS, sg_idxS, so_append, sg_append, so_mkslice, sg_mkslice, so_mm, sg_mm, so_extract, sg_extract, so_assert, sg_assert, so_eqvI, sg_eqvI, so_store, sg_store, so_clone, sg_clone, so_fld, sg_fld, runOp, sy_wanted, sy_skip, sy_exit, sy_ret, sy_region, sy_seq, sy_cond, sy_block, sy_move, sy_pick, sy_bin, sy_len, sy_iface, sy_not, sy_eqvI, sy_call, sy_mm, sy_fadd, sy_faddE, sy_load, sy_box, sy_idxS, sy_extract, sy_assert, sy_eql, sy_neq, sy_lss, sy_gtr, sy_geq, sy_mul, sy_add, sy_rem, nz_int, nz_bool, nz_slice, nz_ptr, nz_iface, nz_niliface, nz_agg, nz1_int, nz1_bool, nz1_slice, nz1_iface, nz1_niliface, nz1_agg, nz0_int, nz0_slice, fr_int, fr_bool, fr_slice, fr_ptr, fr_eptr, fr_iface, fr_niliface, fr_agg, fr_tuple, fl_int, sy_start0, sy_start, sy_isNil1, sy_isNil2, Option.bind_some, Option.map_some, Option.bind_none, Option.map_none, cond_true, cond_false, if_true, if_false, List.map_cons, List.map_nil, Nat.reduceEqDiff, reduceIte, sy_beq, decide_true, decide_false, Nat.reduceAdd, reduceCtorEq, gt_iff_lt, ge_iff_le, bb_tt, bb_tf, bb_ft, bb_ff, Bool.not_true, Bool.not_false, nz_tuple, List.getElem?_cons_zero, List.getElem?_cons_succ, check_ok, nil_chkE, e1, h, h2, h3, h4, hw, mmI]
          exact ⟨_, _, _, rfl, .inl rfl, rfl, rfl, rfl, rfl⟩
      · rw [show lenOf xs.length many stop = xs.length * many from by unfold lenOf; rw [if_pos (by omega), if_neg (by omega)]]
        refine sy_ex 6 t10 rfl rfl rfl ?_ rfl
        simp only [mc10, R, o, og, c, n, m, f, sy_get, sy_del, sy_del0, sy_put, sy_put0, sy_mv, sy_cp, sy_val, sy_nil, sy_cons, sy_ops0, so_move, sg_move, so_pick, sg_pick, so_box, sg_box, so_len, sg_len, so_bin, sg_bin, so_un, sg_un, so_iface, sg_iface, so_call, sg_call, so_fadd, sg_fadd, so_load, sg_load, so_idxS, sg_idxS, so_append, sg_append, so_mkslice, sg_mkslice, so_mm, sg_mm, so_extract, sg_extract, so_assert, sg_assert, so_eqvI, sg_eqvI, so_store, sg_store, so_clone, sg_clone, so_fld, sg_fld, runOp, sy_wanted, sy_skip, sy_exit, sy_ret, sy_region, sy_seq, sy_cond, sy_block, sy_move, sy_pick, sy_bin, sy_len, sy_iface, sy_not, sy_eqvI, sy_call, sy_mm, sy_fadd, sy_faddE, sy_load, sy_box, sy_idxS, sy_extract, sy_assert, sy_eql, sy_neq, sy_lss, sy_gtr, sy_geq, sy_mul, sy_add, sy_rem, nz_int, nz_bool, nz_slice, nz_ptr, nz_iface, nz_niliface, nz_agg, nz1_int, nz1_bool, nz1_slice, nz1_iface, nz1_niliface, nz1_agg, nz0_int, nz0_slice, fr_int, fr_bool, fr_slice, fr_ptr, fr_eptr, fr_iface, fr_niliface, fr_agg, fr_tuple, fl_int, sy_start0, sy_start, sy_isNil1, sy_isNil2, Option.bind_some, Option.map_some, Option.bind_none, Option.map_none, cond_true, cond_false, if_true, if_false, List.map_cons, List.map_nil, Nat.reduceEqDiff, reduceIte, sy_beq, decide_true, decide_false, Nat.reduceAdd, reduceCtorEq, gt_iff_lt, ge_iff_le, bb_tt, bb_tf, bb_ft, bb_ff, Bool.not_true, Bool.not_false, nz_tuple, List.getElem?_cons_zero, List.getElem?_cons_succ, check_ok, nil_chkE, e1, h, h2, h3, hw]
        exact ⟨_, _, _, rfl, .inl rfl, rfl, rfl, rfl, rfl⟩
  · rw [show lenOf xs.length many stop = 0 from by unfold lenOf; rw [if_neg (by omega)]]
    refine sy_ex 6 t10 rfl rfl rfl ?_ rfl
    simp only [mc10, R, o, og, c, n, m, f, sy_get, sy_del, sy_del0, sy_put, sy_put0, sy_mv, sy_cp, sy_val, sy_nil, sy_cons, sy_ops0, so_move, sg_move, so_pick, sg_pick, so_box, sg_box, so_len, sg_len, so_bin, sg_bin, so_un, sg_un, so_iface, sg_iface, so_call, sg_call, so_fadd, sg_fadd, so_load, sg_load, so_idxS, sg_idxS, so_append, sg_append, so_mkslice, sg_mkslice, so_mm, sg_mm, so_extract, sg_extract, so_assert, sg_assert, so_eqvI, sg_eqvI, so_store, sg_store, so_clone, sg_clone, so_fld, sg_fld, runOp, sy_wanted, sy_skip, sy_exit, sy_ret, sy_region, sy_seq, sy_cond, sy_block, sy_move, sy_pick, sy_bin, sy_len, sy_iface, sy_not, sy_eqvI, sy_call, sy_mm, sy_fadd, sy_faddE, sy_load, sy_box, sy_idxS, sy_extract, sy_assert, sy_eql, sy_neq, sy_lss, sy_gtr, sy_geq, sy_mul, sy_add, sy_rem, nz_int, nz_bool, nz_slice, nz_ptr, nz_iface, nz_niliface, nz_agg, nz1_int, nz1_bool, nz1_slice, nz1_iface, nz1_niliface, nz1_agg, nz0_int, nz0_slice, fr_int, fr_bool, fr_slice, fr_ptr, fr_eptr, fr_iface, fr_niliface, fr_agg, fr_tuple, fl_int, sy_start0, sy_start, sy_isNil1, sy_isNil2, Option.bind_some, Option.map_some, Option.bind_none, Option.map_none, cond_true, cond_false, if_true, if_false, List.map_cons, List.map_nil, Nat.reduceEqDiff, reduceIte, sy_beq, decide_true, decide_false, Nat.reduceAdd, reduceCtorEq, gt_iff_lt, ge_iff_le, bb_tt, bb_tf, bb_ft, bb_ff, Bool.not_true, Bool.not_false, nz_tuple, List.getElem?_cons_zero, List.getElem?_cons_succ, check_ok, nil_chkE, e1, h]
    exact ⟨_, _, _, rfl, .inl rfl, rfl, rfl, rfl, rfl⟩

end
end Go.Ev.T3

namespace Go.Ev.T3
open Go.Ev
set_option linter.unusedSimpArgs false
section
variable {L : Nat}
theorem t6 : tab 6 = some mc6 := rfl

abbrev D (a b c d : Int) (l : List (List PVal)) : List PVal := [.int .i64 a, .int .i64 b, .int .i64 c, .int .i64 d, .slice l .no]
abbrev M1 (ob : MObj) : Mem := ⟨1, [(0, ob)], []⟩

theorem clone_core {call : CallF} {l : List (List PVal)} (h1 : headSz 1 l = true) (h2 : l.length ≤ 4294967296) (mm : Mem) : ∃ r, core call (.clone 19 1 false) [.slice l .no] mm = some (r, mm) ∧ r.nz1 = .slice l .no ∧ r.isFresh = false := by
  have hb : Nat.ble l.length 4294967296 = true := Nat.ble_eq_true_of_le h2
  cases l with
  | nil => exact ⟨.slice [] .exact, rfl, rfl, rfl⟩
  | cons x l =>
    refine ⟨.slice (x :: l) .own, ?_, rfl, rfl⟩
    simp only [core, isSlice, elems, h1, hb, cond_true, Option.bind_some, List.isEmpty_cons, cond_false]

theorem evOps_append {globs : Nat → Option (List PVal)} {call : CallF} : ∀ (as bs : List MOper) (s : MSt), evOps globs call (as ++ bs) s = (evOps globs call as s).bind (evOps globs call bs)
  | [], bs, s => rfl
  | a :: as, bs, s => by
    simp only [List.cons_append, evOps]
    cases evOper globs call a s with
    | none => rfl
    | some r => simp only [Option.bind_some]; exact evOps_append as bs r.2

theorem copy_ok (k : Nat) (a b c1 d : Int) (l : List (List PVal)) (ob : MObj) (h1 : headSz 1 l = true) (h2 : l.length ≤ 4294967296) :
    evFn globs tab noext L (k + 1) (.func 15 []) [.agg (D a b c1 d l)] (M1 ob) = some (.agg (D a b c1 d l), M1 ob) := by
  obtain ⟨r, hr, hn, hf⟩ := clone_core (call := evFn globs tab noext L k) h1 h2 ⟨3, [(2, .cells [I 0, I 0, I 0, I 0, S1]), (1, .cells (D a b c1 d l)), (0, ob)], []⟩
  rw [sy_fn t15]
  have h0 : evCode globs (evFn globs tab noext L k) L (R [o 1 (.box false) [c 0], o 2 (.alloc [I 0, I 0, I 0, I 0, S1]) []]) ⟨startEnv 0 [.agg (D a b c1 d l)], M1 ob⟩ =
      some (.normal, ⟨[(2, .ptr 2 0), (1, .ptr 1 0), (0, .agg (D a b c1 d l))], ⟨3, [(2, .cells [I 0, I 0, I 0, I 0, S1]), (1, .cells (D a b c1 d l)), (0, ob)], []⟩⟩) := rfl
  have h3 : evOps globs (evFn globs tab noext L k) [o 3 (.fadd 4) [c 1], o 4 (.load false 1 false) [m 3]] ⟨[(2, .ptr 2 0), (1, .ptr 1 0), (0, .agg (D a b c1 d l))], ⟨3, [(2, .cells [I 0, I 0, I 0, I 0, S1]), (1, .cells (D a b c1 d l)), (0, ob)], []⟩⟩ =
      some ⟨[(4, .slice l .no), (2, .ptr 2 0), (1, .ptr 1 0), (0, .agg (D a b c1 d l))], ⟨3, [(2, .cells [I 0, I 0, I 0, I 0, S1]), (1, .cells (D a b c1 d l)), (0, ob)], []⟩⟩ := rfl
  have h4 : evOps globs (evFn globs tab noext L k) [o 5 (.clone 19 1 false) [m 4], o 6 (.fadd 4) [c 1], x (.store 1 false false) [m 6, m 5]] ⟨[(4, .slice l .no), (2, .ptr 2 0), (1, .ptr 1 0), (0, .agg (D a b c1 d l))], ⟨3, [(2, .cells [I 0, I 0, I 0, I 0, S1]), (1, .cells (D a b c1 d l)), (0, ob)], []⟩⟩ =
      some ⟨[(2, .ptr 2 0), (1, .ptr 1 0), (0, .agg (D a b c1 d l))], ⟨3, [(2, .cells [I 0, I 0, I 0, I 0, S1]), (1, .cells (D a b c1 d l)), (0, ob)], []⟩⟩ := by
    have e1 : runOp globs (evFn globs tab noext L k) (some 5) (.clone 19 1 false) [m 4] ⟨[(4, .slice l .no), (2, .ptr 2 0), (1, .ptr 1 0), (0, .agg (D a b c1 d l))], ⟨3, [(2, .cells [I 0, I 0, I 0, I 0, S1]), (1, .cells (D a b c1 d l)), (0, ob)], []⟩⟩ =
        some ⟨[(5, r), (2, .ptr 2 0), (1, .ptr 1 0), (0, .agg (D a b c1 d l))], ⟨3, [(2, .cells [I 0, I 0, I 0, I 0, S1]), (1, .cells (D a b c1 d l)), (0, ob)], []⟩⟩ := by
      have e2 : opds globs [m 4] [(4, .slice l .no), (2, .ptr 2 0), (1, .ptr 1 0), (0, .agg (D a b c1 d l))] = some ([.slice l .no], [(2, .ptr 2 0), (1, .ptr 1 0), (0, .agg (D a b c1 d l))]) := rfl
      simp only [runOp, e2, Option.bind_some, hr, hf, cond_false]
      rfl
    have e3 : core (evFn globs tab noext L k) (.store 1 false false) [.ptr 1 4, r] ⟨3, [(2, .cells [I 0, I 0, I 0, I 0, S1]), (1, .cells (D a b c1 d l)), (0, ob)], []⟩ = some (.tuple [], ⟨3, [(2, .cells [I 0, I 0, I 0, I 0, S1]), (1, .cells (D a b c1 d l)), (0, ob)], []⟩) := by
      simp only [core, cond_false, Option.bind_some, hn]
      rfl
    have e4 : opds globs [m 6, m 5] [(6, .ptr 1 4), (5, r), (2, .ptr 2 0), (1, .ptr 1 0), (0, .agg (D a b c1 d l))] = some ([.ptr 1 4, r], [(2, .ptr 2 0), (1, .ptr 1 0), (0, .agg (D a b c1 d l))]) := by
      simp only [m, sy_nil, sy_cons, sy_mv, sy_get, sy_del, sy_del0, fr_ptr, hf, Option.bind_some, Option.map_some, cond_false, if_true, if_false, Nat.reduceEqDiff, reduceIte, sy_beq]
    rw [so_clone, e1]
    simp only [Option.bind_some]
    have e5 : runOp globs (evFn globs tab noext L k) (some 6) (.fadd 4) [c 1] ⟨[(5, r), (2, .ptr 2 0), (1, .ptr 1 0), (0, .agg (D a b c1 d l))], ⟨3, [(2, .cells [I 0, I 0, I 0, I 0, S1]), (1, .cells (D a b c1 d l)), (0, ob)], []⟩⟩ = some ⟨[(6, .ptr 1 4), (5, r), (2, .ptr 2 0), (1, .ptr 1 0), (0, .agg (D a b c1 d l))], ⟨3, [(2, .cells [I 0, I 0, I 0, I 0, S1]), (1, .cells (D a b c1 d l)), (0, ob)], []⟩⟩ := rfl
    rw [so_fadd, e5]
    simp only [Option.bind_some]
    rw [so_store]
    simp only [runOp, e4, Option.bind_some, e3, fr_tuple, cond_false, sy_put0, sy_ops0]
  have h34 : evCode globs (evFn globs tab noext L k) L (R [o 3 (.fadd 4) [c 1], o 4 (.load false 1 false) [m 3], o 5 (.clone 19 1 false) [m 4], o 6 (.fadd 4) [c 1], x (.store 1 false false) [m 6, m 5]]) ⟨[(2, .ptr 2 0), (1, .ptr 1 0), (0, .agg (D a b c1 d l))], ⟨3, [(2, .cells [I 0, I 0, I 0, I 0, S1]), (1, .cells (D a b c1 d l)), (0, ob)], []⟩⟩ =
      some (.normal, ⟨[(2, .ptr 2 0), (1, .ptr 1 0), (0, .agg (D a b c1 d l))], ⟨3, [(2, .cells [I 0, I 0, I 0, I 0, S1]), (1, .cells (D a b c1 d l)), (0, ob)], []⟩⟩) := by
    rw [sy_region]
    have := evOps_append (globs := globs) (call := evFn globs tab noext L k) [o 3 (.fadd 4) [c 1], o 4 (.load false 1 false) [m 3]] [o 5 (.clone 19 1 false) [m 4], o 6 (.fadd 4) [c 1], x (.store 1 false false) [m 6, m 5]] ⟨[(2, .ptr 2 0), (1, .ptr 1 0), (0, .agg (D a b c1 d l))], ⟨3, [(2, .cells [I 0, I 0, I 0, I 0, S1]), (1, .cells (D a b c1 d l)), (0, ob)], []⟩⟩
    rw [h3, Option.bind_some, h4] at this
    simp only [List.cons_append, List.nil_append] at this
    rw [this]; rfl
  have h5 : evCode globs (evFn globs tab noext L k) L (.seq (R [o 7 (.load true 5 false) [m 1], x (.store 5 false false) [c 2, m 7]]) (.ret)) ⟨[(2, .ptr 2 0), (1, .ptr 1 0), (0, .agg (D a b c1 d l))], ⟨3, [(2, .cells [I 0, I 0, I 0, I 0, S1]), (1, .cells (D a b c1 d l)), (0, ob)], []⟩⟩ =
      some (.ret, ⟨[(2, .ptr 2 0), (0, .agg (D a b c1 d l))], ⟨3, [(2, .cells (D a b c1 d l)), (1, .cells (D a b c1 d l)), (0, ob)], []⟩⟩) := rfl
  have hb : mc15.body = .seq (R [o 1 (.box false) [c 0], o 2 (.alloc [I 0, I 0, I 0, I 0, S1]) []]) (.seq (R [o 3 (.fadd 4) [c 1], o 4 (.load false 1 false) [m 3], o 5 (.clone 19 1 false) [m 4], o 6 (.fadd 4) [c 1], x (.store 1 false false) [m 6, m 5]]) (.seq (R [o 7 (.load true 5 false) [m 1], x (.store 5 false false) [c 2, m 7]]) (.ret))) := rfl
  rw [hb, sy_seq, h0]
  simp only [Option.bind_some]
  rw [sy_seq, h34]
  simp only [Option.bind_some]
  rw [h5]
  rfl
end
end Go.Ev.T3

namespace Go.Ev.T3
open Go.Ev
set_option linter.unusedSimpArgs false
section
variable {L : Nat}

/-- A decision's cells. -/
def IsDec (x : List PVal) : Prop := ∃ a b c d l, x = D a b c d l ∧ headSz 1 l = true ∧ l.length ≤ 1048576 ∧ ∀ y, y ∈ l → ∃ n, y = [.int .i64 n]

theorem natOf_nat (k : IntKind) (j : Nat) : natOf (.int k (j : Int)) = some j := by simp [natOf]

theorem idx_core {call : CallF} {xs : List (List PVal)} {cp : Cap} {x : List PVal} {j : Nat} (h : xs[j]? = some x) (hl : x.length = 5) (k : IntKind) (mm : Mem) : core call (.idxS 5) [.slice xs cp, .int k (j : Int)] mm = some (.eptr x, mm) := by
  simp [sy_idxS, natOf_nat, h, hl]
theorem load_core {call : CallF} (a b c1 d : Int) (l : List (List PVal)) (mm : Mem) : core call (.load true 5 false) [.eptr (D a b c1 d l)] mm = some (.agg (D a b c1 d l), mm) := rfl
theorem mk_core {call : CallF} (a b c1 d : Int) (l : List (List PVal)) (mm : Mem) : core call (.mkslice 5 1 [I 0, I 0, I 0, I 0, S1] [0] false) [.agg (D a b c1 d l)] mm = some (.slice [D a b c1 d l] .exact, mm) := rfl
theorem app_core {call : CallF} (a b c1 d : Int) (l : List (List PVal)) {acc : List (List PVal)} {cp : Cap} (h1 : cp ≠ .no) (h2 : headSz 5 acc = true) (h3 : acc.length ≤ 100) (mm : Mem) :
    core call (.append 5 false) [.slice acc cp, .slice [D a b c1 d l] .exact] mm = some (.slice (acc ++ [D a b c1 d l]) .own, mm) := by
  have hb : Nat.ble (acc.length + 1) 4294967296 = true := Nat.ble_eq_true_of_le (by omega)
  have he : elems mm 5 (.slice [D a b c1 d l] .exact) = some [D a b c1 d l] := rfl
  simp [core, he, h1, h2, hb]

theorem tmod_nat (i n : Nat) : ((i : Int).tmod (n : Int)) = ((i % n : Nat) : Int) := (Int.ofNat_tmod i n).symm

/-- The rounds' body. -/
def rb6 : MCode := .seq (R [o 19 (.bin .lss) [c 18, c 17]]) (.seq (.cond (c 19) (.skip) (.exit 0)) (.seq (.block 1 (.seq (R [o 20 .move [c 18], o 10 .move [m 20]]) (R [o 21 .move [m 9], o 22 .move [c 0], o 23 .move [c 10], o 24 .move [c 0], o 25 (.len 0) [m 24], o 26 (.bin .rem) [m 23, m 25], o 27 (.idxS 5) [m 22, m 26], o 28 (.load true 5 false) [m 27], o 29 .call [f 15, m 28], o 30 (.mkslice 5 1 [I 0, I 0, I 0, I 0, S1] [0] false) [m 29], o 31 (.append 5 false) [m 21, m 30], o 9 .move [m 31]]))) (R [o 32 (.bin .add) [m 18, n 1], o 18 .move [m 32]])))

def E6 (turn : List (List PVal)) (cq : Cap) (many stop most : Int) (N i j : Nat) (acc : List (List PVal)) (cp : Cap) : Env :=
  [(18, .int .i64 (i : Int)), (9, .slice acc cp), (10, .int .i64 (j : Int)), (19, .bool true), (17, .int .i64 (N : Int)), (8, .slice [] .exact), (0, .slice turn cq), (1, .int .i64 many), (2, .int .i64 stop), (3, .int .i64 most)]
def E6' (turn : List (List PVal)) (cq : Cap) (many stop most : Int) (N : Nat) : Env :=
  [(18, .int .i64 0), (17, .int .i64 (N : Int)), (9, .slice [] .exact), (8, .slice [] .exact), (0, .slice turn cq), (1, .int .i64 many), (2, .int .i64 stop), (3, .int .i64 most)]

set_option maxHeartbeats 4000000 in
theorem round6 (k : Nat) {turn : List (List PVal)} {cq : Cap} {many stop most : Int} {N i j : Nat} {acc : List (List PVal)} {cp : Cap} {ob : MObj} {a b c1 d : Int} {l : List (List PVal)}
    (hx : turn[i % turn.length]? = some (D a b c1 d l)) (hl1 : headSz 1 l = true) (hl2 : l.length ≤ 1048576) (hi : i < N) (hN : N ≤ 60) (hcp : cp ≠ .no) (ha : headSz 5 acc = true) (hal : acc.length ≤ 100) (ht : turn.length ≠ 0) :
    evCode globs (evFn globs tab noext L (k + 1)) L rb6 ⟨E6 turn cq many stop most N i j acc cp, M1 ob⟩ = some (.normal, ⟨E6 turn cq many stop most N (i + 1) i (acc ++ [D a b c1 d l]) .own, M1 ob⟩) := by
  have h1 : ((i : Int) < (N : Int)) = True := by simp [hi]
  have h2 : ((turn.length : Int) = 0) = False := propext ⟨fun h => by omega, False.elim⟩
  have hw : IntKind.i64.wrap ((i : Int) + 1) = ((i + 1 : Nat) : Int) := by rw [wrap_small (by omega) (by omega)]; rfl
  simp only [rb6, E6, R, o, og, c, n, m, f, sy_get, sy_del, sy_del0, sy_put, sy_put0, sy_mv, sy_cp, sy_val, sy_nil, sy_cons, sy_ops0, so_move, sg_move, so_pick, sg_pick, so_box, sg_box, so_len, sg_len, so_bin, sg_bin, so_un, sg_un, so_iface, sg_iface, so_call, sg_call, so_fadd, sg_fadd, so_load, sg_load, so_idxS, sg_idxS, so_append, sg_append, so_mkslice, sg_mkslice, so_mm, sg_mm, so_extract, sg_extract, so_assert, sg_assert, so_eqvI, sg_eqvI, so_store, sg_store, so_clone, sg_clone, so_fld, sg_fld, runOp, sy_wanted, sy_skip, sy_exit, sy_ret, sy_region, sy_seq, sy_cond, sy_block, sy_move, sy_pick, sy_bin, sy_len, sy_iface, sy_not, sy_eqvI, sy_call, sy_mm, sy_fadd, sy_faddE, sy_box, sy_extract, sy_assert, sy_eql, sy_neq, sy_lss, sy_gtr, sy_geq, sy_mul, sy_add, sy_rem, nz_int, nz_bool, nz_slice, nz_ptr, nz_iface, nz_niliface, nz_agg, nz1_int, nz1_bool, nz1_slice, nz1_iface, nz1_niliface, nz1_agg, nz0_int, nz0_slice, fr_int, fr_bool, fr_slice, fr_ptr, fr_eptr, fr_iface, fr_niliface, fr_agg, fr_tuple, fl_int, sy_start0, sy_start, sy_isNil1, sy_isNil2, Option.bind_some, Option.map_some, Option.bind_none, Option.map_none, cond_true, cond_false, if_true, if_false, List.map_cons, List.map_nil, Nat.reduceEqDiff, reduceIte, sy_beq, decide_true, decide_false, Nat.reduceAdd, reduceCtorEq, gt_iff_lt, ge_iff_le, bb_tt, bb_tf, bb_ft, bb_ff, Bool.not_true, Bool.not_false, nz_tuple, List.getElem?_cons_zero, List.getElem?_cons_succ, h1, h2, tmod_nat, idx_core hx rfl, load_core, mk_core, app_core _ _ _ _ _ hcp ha hal, copy_ok k _ _ _ _ _ ob hl1 (by omega), hw, nz0_int, nz0_slice, D]

set_option maxHeartbeats 4000000 in
theorem round6' (k : Nat) {turn : List (List PVal)} {cq : Cap} {many stop most : Int} {N : Nat} {ob : MObj} {a b c1 d : Int} {l : List (List PVal)}
    (hx : turn[0 % turn.length]? = some (D a b c1 d l)) (hl1 : headSz 1 l = true) (hl2 : l.length ≤ 1048576) (hi : 0 < N) (ht : turn.length ≠ 0) :
    evCode globs (evFn globs tab noext L (k + 1)) L rb6 ⟨E6' turn cq many stop most N, M1 ob⟩ = some (.normal, ⟨E6 turn cq many stop most N 1 0 [D a b c1 d l] .own, M1 ob⟩) := by
  have h1 : ((0 : Int) < (N : Int)) = True := by simp [hi]
  have h2 : ((turn.length : Int) = 0) = False := propext ⟨fun h => by omega, False.elim⟩
  have hw : IntKind.i64.wrap ((0 : Int) + 1) = 1 := rfl
  have h3 : ((0 : Int).tmod (turn.length : Int)) = ((0 % turn.length : Nat) : Int) := tmod_nat 0 _
  have hap := app_core (call := evFn globs tab noext L (k + 1)) a b c1 d l (acc := []) (cp := .exact) (by simp) rfl (by simp) (M1 ob)
  simp only [rb6, E6', E6, R, o, og, c, n, m, f, sy_get, sy_del, sy_del0, sy_put, sy_put0, sy_mv, sy_cp, sy_val, sy_nil, sy_cons, sy_ops0, so_move, sg_move, so_pick, sg_pick, so_box, sg_box, so_len, sg_len, so_bin, sg_bin, so_un, sg_un, so_iface, sg_iface, so_call, sg_call, so_fadd, sg_fadd, so_load, sg_load, so_idxS, sg_idxS, so_append, sg_append, so_mkslice, sg_mkslice, so_mm, sg_mm, so_extract, sg_extract, so_assert, sg_assert, so_eqvI, sg_eqvI, so_store, sg_store, so_clone, sg_clone, so_fld, sg_fld, runOp, sy_wanted, sy_skip, sy_exit, sy_ret, sy_region, sy_seq, sy_cond, sy_block, sy_move, sy_pick, sy_bin, sy_len, sy_iface, sy_not, sy_eqvI, sy_call, sy_mm, sy_fadd, sy_faddE, sy_box, sy_extract, sy_assert, sy_eql, sy_neq, sy_lss, sy_gtr, sy_geq, sy_mul, sy_add, sy_rem, nz_int, nz_bool, nz_slice, nz_ptr, nz_iface, nz_niliface, nz_agg, nz1_int, nz1_bool, nz1_slice, nz1_iface, nz1_niliface, nz1_agg, nz0_int, nz0_slice, fr_int, fr_bool, fr_slice, fr_ptr, fr_eptr, fr_iface, fr_niliface, fr_agg, fr_tuple, fl_int, sy_start0, sy_start, sy_isNil1, sy_isNil2, Option.bind_some, Option.map_some, Option.bind_none, Option.map_none, cond_true, cond_false, if_true, if_false, List.map_cons, List.map_nil, Nat.reduceEqDiff, reduceIte, sy_beq, decide_true, decide_false, Nat.reduceAdd, reduceCtorEq, gt_iff_lt, ge_iff_le, bb_tt, bb_tf, bb_ft, bb_ff, Bool.not_true, Bool.not_false, nz_tuple, List.getElem?_cons_zero, List.getElem?_cons_succ, h1, h2, h3, idx_core hx rfl, load_core, mk_core, hap, copy_ok k _ _ _ _ _ ob hl1 (by omega), hw, nz0_int, nz0_slice, D]
  rfl

end
end Go.Ev.T3

