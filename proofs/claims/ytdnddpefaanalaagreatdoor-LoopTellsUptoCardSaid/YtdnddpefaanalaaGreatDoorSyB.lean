/- One of the texts that the proof of the law rests on: it has no condition of its own. -/
import Derived.Test.YtdnddpefaanalaaGreatDoorSyA
namespace Go.Ev.T3
open Go.Ev
set_option linter.unusedSimpArgs false
section
variable {L : Nat}

def ex (turn : List (List PVal)) (N : Nat) : List (List PVal) := (List.range N).map fun i => (turn[i % turn.length]?).getD []
theorem ex_len (turn : List (List PVal)) (N : Nat) : (ex turn N).length = N := by simp [ex]
theorem ex_succ (turn : List (List PVal)) (N : Nat) : ex turn (N + 1) = ex turn N ++ [(turn[N % turn.length]?).getD []] := by simp [ex, List.range_succ]
theorem ex_get {turn : List (List PVal)} {N i : Nat} (h : i < N) : (ex turn N)[i]? = some ((turn[i % turn.length]?).getD []) := by simp [ex, h]
theorem turn_get {turn : List (List PVal)} (ht : turn.length ≠ 0) (i : Nat) : ∃ x, turn[i % turn.length]? = some x ∧ x ∈ turn := by
  have : i % turn.length < turn.length := Nat.mod_lt _ (by omega)
  exact ⟨turn[i % turn.length], by simp, List.getElem_mem _⟩
theorem ex_head {turn : List (List PVal)} (ht : turn.length ≠ 0) (hd : ∀ x, x ∈ turn → IsDec x) (N : Nat) : headSz 5 (ex turn N) = true := by
  cases N with
  | zero => rfl
  | succ N =>
    obtain ⟨x, hx, hm⟩ := turn_get ht 0
    obtain ⟨a, b, c1, d, l, rfl, _⟩ := hd x hm
    have : ex turn (N + 1) = (turn[0 % turn.length]?).getD [] :: ((List.range N).map fun i => (turn[(i + 1) % turn.length]?).getD []) := by
      simp [ex, List.range_succ_eq_map]
    rw [this, hx]
    rfl

set_option maxHeartbeats 4000000 in
theorem exit6 (k : Nat) {turn : List (List PVal)} {cq : Cap} {many stop most : Int} {N j : Nat} {acc : List (List PVal)} {cp : Cap} {ob : MObj} :
    evCode globs (evFn globs tab noext L k) L rb6 ⟨E6 turn cq many stop most N N j acc cp, M1 ob⟩ = some (.exit 0, ⟨[(19, .bool false), (18, .int .i64 (N : Int)), (9, .slice acc cp), (10, .int .i64 (j : Int)), (17, .int .i64 (N : Int)), (8, .slice [] .exact), (0, .slice turn cq), (1, .int .i64 many), (2, .int .i64 stop), (3, .int .i64 most)], M1 ob⟩) := by
  have h1 : ((N : Int) < (N : Int)) = False := by simp
  simp only [rb6, E6, R, o, og, c, n, m, f, sy_get, sy_del, sy_del0, sy_put, sy_put0, sy_mv, sy_cp, sy_val, sy_nil, sy_cons, sy_ops0, so_move, sg_move, so_pick, sg_pick, so_box, sg_box, so_len, sg_len, so_bin, sg_bin, so_un, sg_un, so_iface, sg_iface, so_call, sg_call, so_fadd, sg_fadd, so_load, sg_load, so_idxS, sg_idxS, so_append, sg_append, so_mkslice, sg_mkslice, so_mm, sg_mm, so_extract, sg_extract, so_assert, sg_assert, so_eqvI, sg_eqvI, so_store, sg_store, so_clone, sg_clone, so_fld, sg_fld, runOp, sy_wanted, sy_skip, sy_exit, sy_ret, sy_region, sy_seq, sy_cond, sy_block, sy_move, sy_pick, sy_bin, sy_len, sy_iface, sy_not, sy_eqvI, sy_call, sy_fadd, sy_faddE, sy_load, sy_box, sy_idxS, sy_extract, sy_assert, sy_eql, sy_neq, sy_lss, sy_gtr, sy_geq, sy_mul, sy_add, sy_rem, nz_int, nz_bool, nz_slice, nz_ptr, nz_iface, nz_niliface, nz_agg, nz1_int, nz1_bool, nz1_slice, nz1_iface, nz1_niliface, nz1_agg, nz0_int, nz0_slice, fr_int, fr_bool, fr_slice, fr_ptr, fr_eptr, fr_iface, fr_niliface, fr_agg, fr_tuple, fl_int, sy_start0, sy_start, sy_isNil1, sy_isNil2, Option.bind_some, Option.map_some, Option.bind_none, Option.map_none, cond_true, cond_false, if_true, if_false, List.map_cons, List.map_nil, Nat.reduceEqDiff, reduceIte, sy_beq, decide_true, decide_false, Nat.reduceAdd, reduceCtorEq, gt_iff_lt, ge_iff_le, bb_tt, bb_tf, bb_ft, bb_ff, Bool.not_true, Bool.not_false, nz_tuple, List.getElem?_cons_zero, List.getElem?_cons_succ, h1]

set_option maxHeartbeats 4000000 in
theorem exit6' (k : Nat) {turn : List (List PVal)} {cq : Cap} {many stop most : Int} {ob : MObj} :
    evCode globs (evFn globs tab noext L k) L rb6 ⟨E6' turn cq many stop most 0, M1 ob⟩ = some (.exit 0, ⟨[(19, .bool false), (18, .int .i64 0), (17, .int .i64 ((0 : Nat) : Int)), (9, .slice [] .exact), (8, .slice [] .exact), (0, .slice turn cq), (1, .int .i64 many), (2, .int .i64 stop), (3, .int .i64 most)], M1 ob⟩) := by
  have h1 : ((0 : Int) < ((0 : Nat) : Int)) = False := by simp
  simp only [rb6, E6', R, o, og, c, n, m, f, sy_get, sy_del, sy_del0, sy_put, sy_put0, sy_mv, sy_cp, sy_val, sy_nil, sy_cons, sy_ops0, so_move, sg_move, so_pick, sg_pick, so_box, sg_box, so_len, sg_len, so_bin, sg_bin, so_un, sg_un, so_iface, sg_iface, so_call, sg_call, so_fadd, sg_fadd, so_load, sg_load, so_idxS, sg_idxS, so_append, sg_append, so_mkslice, sg_mkslice, so_mm, sg_mm, so_extract, sg_extract, so_assert, sg_assert, so_eqvI, sg_eqvI, so_store, sg_store, so_clone, sg_clone, so_fld, sg_fld, runOp, sy_wanted, sy_skip, sy_exit, sy_ret, sy_region, sy_seq, sy_cond, sy_block, sy_move, sy_pick, sy_bin, sy_len, sy_iface, sy_not, sy_eqvI, sy_call, sy_fadd, sy_faddE, sy_load, sy_box, sy_idxS, sy_extract, sy_assert, sy_eql, sy_neq, sy_lss, sy_gtr, sy_geq, sy_mul, sy_add, sy_rem, nz_int, nz_bool, nz_slice, nz_ptr, nz_iface, nz_niliface, nz_agg, nz1_int, nz1_bool, nz1_slice, nz1_iface, nz1_niliface, nz1_agg, nz0_int, nz0_slice, fr_int, fr_bool, fr_slice, fr_ptr, fr_eptr, fr_iface, fr_niliface, fr_agg, fr_tuple, fl_int, sy_start0, sy_start, sy_isNil1, sy_isNil2, Option.bind_some, Option.map_some, Option.bind_none, Option.map_none, cond_true, cond_false, if_true, if_false, List.map_cons, List.map_nil, Nat.reduceEqDiff, reduceIte, sy_beq, decide_true, decide_false, Nat.reduceAdd, reduceCtorEq, gt_iff_lt, ge_iff_le, bb_tt, bb_tf, bb_ft, bb_ff, Bool.not_true, Bool.not_false, nz_tuple, List.getElem?_cons_zero, List.getElem?_cons_succ, h1]

theorem loop6 (k : Nat) {turn : List (List PVal)} {cq : Cap} {many stop most : Int} {N : Nat} {ob : MObj} (ht : turn.length ≠ 0) (hd : ∀ x, x ∈ turn → IsDec x) (hN : N ≤ 60) : ∀ (dd fuel i j : Nat), i + dd = N → dd + 1 ≤ fuel →
    ∃ env, evLoop true (evCode globs (evFn globs tab noext L (k + 1)) L rb6) fuel ⟨E6 turn cq many stop most N i j (ex turn i) .own, M1 ob⟩ = some (.exit 0, ⟨env, M1 ob⟩) ∧ env.get 9 = some (.slice (ex turn N) .own) ∧ env.del 9 = [(19, .bool false), (18, .int .i64 (N : Int)), (10, .int .i64 ((if dd = 0 then j else N - 1 : Nat) : Int)), (17, .int .i64 (N : Int)), (8, .slice [] .exact), (0, .slice turn cq), (1, .int .i64 many), (2, .int .i64 stop), (3, .int .i64 most)]
  | 0, 0, i, j, h, hf => by omega
  | 0, fuel + 1, i, j, h, hf => by
    obtain rfl : i = N := by omega
    refine ⟨_, by simp only [evLoop, exit6, Option.bind_some]; rfl, rfl, rfl⟩
  | dd + 1, 0, i, j, h, hf => by omega
  | dd + 1, fuel + 1, i, j, h, hf => by
    obtain ⟨x, hx, hm⟩ := turn_get ht i
    obtain ⟨a, b, c1, d, l, rfl, hl1, hl2, _⟩ := hd x hm
    have hr := round6 (L := L) k (cq := cq) (many := many) (stop := stop) (most := most) (N := N) (i := i) (j := j) (acc := ex turn i) (cp := .own) (ob := ob) hx hl1 hl2 (by omega) hN (by simp) (ex_head ht hd i) (by rw [ex_len]; omega) ht
    have e1 : ex turn i ++ [D a b c1 d l] = ex turn (i + 1) := by rw [ex_succ, hx]; rfl
    rw [e1] at hr
    obtain ⟨env, h1, h2, h3⟩ := loop6 k (cq := cq) (many := many) (stop := stop) (most := most) (ob := ob) ht hd hN dd fuel (i + 1) i (by omega) (by omega)
    refine ⟨env, ?_, h2, ?_⟩
    · simp only [evLoop, hr, Option.bind_some]
      exact h1
    · rw [h3]
      have : (if dd = 0 then i else N - 1 : Nat) = (if dd + 1 = 0 then j else N - 1) := by
        split <;> simp <;> omega
      rw [this]

theorem mx_core {call : CallF} (a : Int) (mm : Mem) : core call (.mm true) [.int .i64 a, .int .i64 0] mm = some (.int .i64 (max a 0), mm) := by
  have : (if 0 > a then 0 else a) = max a 0 := by omega
  simp [sy_mm, mmI, this]
theorem mn_core {call : CallF} (a b : Int) (mm : Mem) : core call (.mm false) [.int .i64 a, .int .i64 b] mm = some (.int .i64 (min a b), mm) := by
  have : (if b < a then b else a) = min a b := by omega
  simp [sy_mm, mmI, this]

def manyOf (n : Nat) (many stop most : Int) : Nat := (min (lenOf n many stop) (max most 0)).toNat
theorem lenOf_nn (n : Nat) (many stop : Int) : 0 ≤ lenOf n many stop := by
  unfold lenOf
  split
  · rename_i h
    have := mul_small h.1
    split
    · omega
    · omega
  · omega
theorem manyOf_int (n : Nat) (many stop most : Int) : min (lenOf n many stop) (max most 0) = (manyOf n many stop most : Int) := by
  have := lenOf_nn n many stop
  unfold manyOf; omega

set_option maxHeartbeats 4000000 in
theorem expand_ok (k : Nat) (turn : List (List PVal)) (cq : Cap) (many stop most : Int) (ob : MObj) (hm : most ≤ 60) (hd : ∀ x, x ∈ turn → IsDec x) (hL : 100 ≤ L) :
    evFn globs tab noext L (k + 1 + 1 + 1) (.func 6 []) [.slice turn cq, .int .i64 many, .int .i64 stop, .int .i64 most] (M1 ob) = some (.slice (ex turn (manyOf turn.length many stop most)) .no, M1 ob) := by
  have hN : manyOf turn.length many stop most ≤ 60 := by unfold manyOf; omega
  have hmi := manyOf_int turn.length many stop most
  generalize hNN : manyOf turn.length many stop most = N at hN hmi
  have h0 : evCode globs (evFn globs tab noext L (k + 1 + 1)) L (R [o 11 .move [c 0], o 12 .move [c 1], o 13 .move [c 2], o 14 .call [f 10, m 11, m 12, m 13], o 15 .move [c 3], o 16 (.mm true) [m 15, n 0], o 17 (.mm false) [m 14, m 16], o 18 .move [n 0]]) ⟨[(9, .slice [] .exact), (8, .slice [] .exact), (0, .slice turn cq), (1, .int .i64 many), (2, .int .i64 stop), (3, .int .i64 most)], M1 ob⟩ =
      some (.normal, ⟨E6' turn cq many stop most N, M1 ob⟩) := by
    simp only [E6', R, o, og, c, n, m, f, sy_get, sy_del, sy_del0, sy_put, sy_put0, sy_mv, sy_cp, sy_val, sy_nil, sy_cons, sy_ops0, so_move, sg_move, so_pick, sg_pick, so_box, sg_box, so_len, sg_len, so_bin, sg_bin, so_un, sg_un, so_iface, sg_iface, so_call, sg_call, so_fadd, sg_fadd, so_load, sg_load, so_idxS, sg_idxS, so_append, sg_append, so_mkslice, sg_mkslice, so_mm, sg_mm, so_extract, sg_extract, so_assert, sg_assert, so_eqvI, sg_eqvI, so_store, sg_store, so_clone, sg_clone, so_fld, sg_fld, runOp, sy_wanted, sy_skip, sy_exit, sy_ret, sy_region, sy_seq, sy_cond, sy_block, sy_move, sy_pick, sy_bin, sy_len, sy_iface, sy_not, sy_eqvI, sy_call, sy_fadd, sy_faddE, sy_load, sy_box, sy_idxS, sy_extract, sy_assert, sy_eql, sy_neq, sy_lss, sy_gtr, sy_geq, sy_mul, sy_add, sy_rem, nz_int, nz_bool, nz_slice, nz_ptr, nz_iface, nz_niliface, nz_agg, nz1_int, nz1_bool, nz1_slice, nz1_iface, nz1_niliface, nz1_agg, nz0_int, nz0_slice, fr_int, fr_bool, fr_slice, fr_ptr, fr_eptr, fr_iface, fr_niliface, fr_agg, fr_tuple, fl_int, sy_start0, sy_start, sy_isNil1, sy_isNil2, Option.bind_some, Option.map_some, Option.bind_none, Option.map_none, cond_true, cond_false, if_true, if_false, List.map_cons, List.map_nil, Nat.reduceEqDiff, reduceIte, sy_beq, decide_true, decide_false, Nat.reduceAdd, reduceCtorEq, gt_iff_lt, ge_iff_le, bb_tt, bb_tf, bb_ft, bb_ff, Bool.not_true, Bool.not_false, nz_tuple, List.getElem?_cons_zero, List.getElem?_cons_succ, len_ok, mx_core, mn_core, hmi]
  have hloop : ∃ env, evLoop true (evCode globs (evFn globs tab noext L (k + 1 + 1)) L rb6) L ⟨E6' turn cq many stop most N, M1 ob⟩ = some (.exit 0, ⟨env, M1 ob⟩) ∧ ∃ cp, env.get 9 = some (.slice (ex turn N) cp) ∧ (env.del 9).get 8 = some (.slice [] .exact) := by
    obtain ⟨L', rfl⟩ : ∃ L', L = L' + 1 := ⟨L - 1, by omega⟩
    cases N with
    | zero => exact ⟨_, by simp only [evLoop, exit6', Option.bind_some]; rfl, .exact, rfl, rfl⟩
    | succ N =>
      have ht : turn.length ≠ 0 := fun h0 => by
        have : lenOf turn.length many stop = 0 := by
          unfold lenOf
          rw [if_neg]
          simp [chk, h0]
        omega
      obtain ⟨x, hx, hmem⟩ := turn_get ht 0
      obtain ⟨a, b, c1, d, l, rfl, hl1, hl2, _⟩ := hd x hmem
      have hr := round6' (L := L' + 1) (k + 1) (cq := cq) (many := many) (stop := stop) (most := most) (N := N + 1) (ob := ob) hx hl1 hl2 (by omega) ht
      have e1 : [D a b c1 d l] = ex turn 1 := by simp [ex] at hx ⊢; rw [hx]; rfl
      rw [e1] at hr
      obtain ⟨env, h1, h2, h3⟩ := loop6 (L := L' + 1) (k + 1) (cq := cq) (many := many) (stop := stop) (most := most) (ob := ob) ht hd hN N L' 1 0 (by omega) (by omega)
      refine ⟨env, ?_, .own, h2, by rw [h3]; rfl⟩
      simp only [evLoop, hr, Option.bind_some]
      exact h1
  obtain ⟨env, hl, cp, hg9, hg8⟩ := hloop
  refine sy_ex 8 t6 rfl rfl rfl ?_ rfl
  have hb : mc6.body = .seq (R [o 8 .move [.val S0]]) (.seq (R [o 9 .move [.val S0]]) (.seq (.seq (R [o 11 .move [c 0], o 12 .move [c 1], o 13 .move [c 2], o 14 .call [f 10, m 11, m 12, m 13], o 15 .move [c 3], o 16 (.mm true) [m 15, n 0], o 17 (.mm false) [m 14, m 16], o 18 .move [n 0]]) (.block 0 (.loop true rb6))) (.seq (R [o 33 .move [m 9], o 8 .move [m 33]]) (.ret)))) := rfl
  have e1 : evCode globs (evFn globs tab noext L (k + 1 + 1)) L (R [o 8 .move [.val S0]]) ⟨startEnv 0 [.slice turn cq, .int .i64 many, .int .i64 stop, .int .i64 most], M1 ob⟩ = some (.normal, ⟨[(8, .slice [] .exact), (0, .slice turn cq), (1, .int .i64 many), (2, .int .i64 stop), (3, .int .i64 most)], M1 ob⟩) := rfl
  have e2 : evCode globs (evFn globs tab noext L (k + 1 + 1)) L (R [o 9 .move [.val S0]]) ⟨[(8, .slice [] .exact), (0, .slice turn cq), (1, .int .i64 many), (2, .int .i64 stop), (3, .int .i64 most)], M1 ob⟩ = some (.normal, ⟨[(9, .slice [] .exact), (8, .slice [] .exact), (0, .slice turn cq), (1, .int .i64 many), (2, .int .i64 stop), (3, .int .i64 most)], M1 ob⟩) := rfl
  have e3 : evCode globs (evFn globs tab noext L (k + 1 + 1)) L (.block 0 (.loop true rb6)) ⟨E6' turn cq many stop most N, M1 ob⟩ = some (.normal, ⟨env, M1 ob⟩) := by
    rw [sy_block, sy_loop, hl]; rfl
  have e4 : evCode globs (evFn globs tab noext L (k + 1 + 1)) L (.seq (R [o 33 .move [m 9], o 8 .move [m 33]]) (.ret)) ⟨env, M1 ob⟩ = some (.ret, ⟨(8, .slice (ex turn N) cp) :: ((env.del 9).del 33).del 8, M1 ob⟩) := by
    simp only [R, o, og, c, n, m, f, sy_get, sy_del, sy_del0, sy_put, sy_put0, sy_mv, sy_cp, sy_val, sy_nil, sy_cons, sy_ops0, so_move, sg_move, so_pick, sg_pick, so_box, sg_box, so_len, sg_len, so_bin, sg_bin, so_un, sg_un, so_iface, sg_iface, so_call, sg_call, so_fadd, sg_fadd, so_load, sg_load, so_idxS, sg_idxS, so_append, sg_append, so_mkslice, sg_mkslice, so_mm, sg_mm, so_extract, sg_extract, so_assert, sg_assert, so_eqvI, sg_eqvI, so_store, sg_store, so_clone, sg_clone, so_fld, sg_fld, runOp, sy_wanted, sy_skip, sy_exit, sy_ret, sy_region, sy_seq, sy_cond, sy_block, sy_move, sy_pick, sy_bin, sy_len, sy_iface, sy_not, sy_eqvI, sy_call, sy_fadd, sy_faddE, sy_load, sy_box, sy_idxS, sy_extract, sy_assert, sy_eql, sy_neq, sy_lss, sy_gtr, sy_geq, sy_mul, sy_add, sy_rem, nz_int, nz_bool, nz_slice, nz_ptr, nz_iface, nz_niliface, nz_agg, nz1_int, nz1_bool, nz1_slice, nz1_iface, nz1_niliface, nz1_agg, nz0_int, nz0_slice, fr_int, fr_bool, fr_slice, fr_ptr, fr_eptr, fr_iface, fr_niliface, fr_agg, fr_tuple, fl_int, sy_start0, sy_start, sy_isNil1, sy_isNil2, Option.bind_some, Option.map_some, Option.bind_none, Option.map_none, cond_true, cond_false, if_true, if_false, List.map_cons, List.map_nil, Nat.reduceEqDiff, reduceIte, sy_beq, decide_true, decide_false, Nat.reduceAdd, reduceCtorEq, gt_iff_lt, ge_iff_le, bb_tt, bb_tf, bb_ft, bb_ff, Bool.not_true, Bool.not_false, nz_tuple, List.getElem?_cons_zero, List.getElem?_cons_succ, hg9]
  rw [hb, sy_seq, e1]
  simp only [Option.bind_some]
  rw [sy_seq, e2]
  simp only [Option.bind_some]
  rw [sy_seq, sy_seq, h0]
  simp only [Option.bind_some]
  rw [e3]
  simp only [Option.bind_some]
  rw [e4]
  exact ⟨_, _, _, rfl, .inl rfl, rfl, rfl, rfl, rfl⟩
end
end Go.Ev.T3

namespace Go.Ev.T3
open Go.Ev
set_option linter.unusedSimpArgs false
section
variable {L : Nat}
theorem t11 : tab 11 = some mc11 := rfl

def rb11 : MCode := .seq (R [o 45 (.bin .lss) [c 44, c 43]]) (.seq (.cond (c 45) (.skip) (.exit 0)) (.seq (.block 1 (.seq (R [o 46 .move [c 44], o 5 .move [m 46]]) (.seq (R [o 47 (.fadd 4) [c 2], o 48 (.load false 1 false) [m 47], o 49 .move [c 5], o 50 (.idxS 1) [m 48, m 49], o 51 (.load false 1 false) [m 50], o 52 (.fadd 4) [c 3], o 53 (.load false 1 false) [m 52], o 54 .move [c 5], o 55 (.idxS 1) [m 53, m 54], o 56 (.load false 1 false) [m 55], o 57 (.bin .neq) [m 51, m 56]]) (.cond (c 57) (.seq (R [o 4 .move [.val (.bool false)]]) (.ret)) (.skip))))) (R [o 58 (.bin .add) [m 44, n 1], o 44 .move [m 58]])))
abbrev M3 (a b c1 d : Int) (l : List (List PVal)) (ob : MObj) : Mem := ⟨3, [(2, .cells (D a b c1 d l)), (1, .cells (D a b c1 d l)), (0, ob)], []⟩
def E11 (p0 p1 : PVal) (n i j : Nat) : Env := [(44, .int .i64 (i : Int)), (57, .bool false), (5, .int .i64 (j : Int)), (45, .bool true), (43, .int .i64 (n : Int)), (40, .bool false), (4, .bool false), (3, .ptr 2 0), (2, .ptr 1 0), (0, p0), (1, p1)]
def E11' (p0 p1 : PVal) (n : Nat) : Env := [(44, .int .i64 0), (43, .int .i64 (n : Int)), (40, .bool false), (4, .bool false), (3, .ptr 2 0), (2, .ptr 1 0), (0, p0), (1, p1)]

section
variable {call : CallF} {a b c1 d : Int} {l : List (List PVal)} {ob : MObj}
theorem ld10 : core call (.load false 1 false) [.ptr 1 0] (M3 a b c1 d l ob) = some (.int .i64 a, M3 a b c1 d l ob) := rfl
theorem ld11 : core call (.load false 1 false) [.ptr 1 1] (M3 a b c1 d l ob) = some (.int .i64 b, M3 a b c1 d l ob) := rfl
theorem ld12 : core call (.load false 1 false) [.ptr 1 2] (M3 a b c1 d l ob) = some (.int .i64 c1, M3 a b c1 d l ob) := rfl
theorem ld13 : core call (.load false 1 false) [.ptr 1 3] (M3 a b c1 d l ob) = some (.int .i64 d, M3 a b c1 d l ob) := rfl
theorem ld14 : core call (.load false 1 false) [.ptr 1 4] (M3 a b c1 d l ob) = some (.slice l .no, M3 a b c1 d l ob) := rfl
theorem ld20 : core call (.load false 1 false) [.ptr 2 0] (M3 a b c1 d l ob) = some (.int .i64 a, M3 a b c1 d l ob) := rfl
theorem ld21 : core call (.load false 1 false) [.ptr 2 1] (M3 a b c1 d l ob) = some (.int .i64 b, M3 a b c1 d l ob) := rfl
theorem ld22 : core call (.load false 1 false) [.ptr 2 2] (M3 a b c1 d l ob) = some (.int .i64 c1, M3 a b c1 d l ob) := rfl
theorem ld23 : core call (.load false 1 false) [.ptr 2 3] (M3 a b c1 d l ob) = some (.int .i64 d, M3 a b c1 d l ob) := rfl
theorem ld24 : core call (.load false 1 false) [.ptr 2 4] (M3 a b c1 d l ob) = some (.slice l .no, M3 a b c1 d l ob) := rfl
theorem ldE (k : IntKind) (x : Int) (mm : Mem) : core call (.load false 1 false) [.eptr [.int k x]] mm = some (.int k x, mm) := rfl
theorem idx1_core {xs : List (List PVal)} {cp : Cap} {x : List PVal} {j : Nat} (h : xs[j]? = some x) (hl : x.length = 1) (k : IntKind) (mm : Mem) : core call (.idxS 1) [.slice xs cp, .int k (j : Int)] mm = some (.eptr x, mm) := by
  simp [sy_idxS, natOf_nat, h, hl]
end

set_option maxHeartbeats 400000 in
theorem round11 (k : Nat) {p0 p1 : PVal} {a b c1 d : Int} {l : List (List PVal)} {ob : MObj} {i j : Nat} {x : Int} (hx : l[i]? = some [.int .i64 x]) (hb : l.length ≤ 1048576) :
    evCode globs (evFn globs tab noext L k) L rb11 ⟨E11 p0 p1 l.length i j, M3 a b c1 d l ob⟩ = some (.normal, ⟨E11 p0 p1 l.length (i + 1) i, M3 a b c1 d l ob⟩) := by
  have hi : i < l.length := (List.getElem?_eq_some_iff.1 hx).1
  have h1 : ((i : Int) < (l.length : Int)) = True := by simp [hi]
  have h2 : (x != x) = false := by simp
  have hw : IntKind.i64.wrap ((i : Int) + 1) = ((i + 1 : Nat) : Int) := by rw [wrap_small (by omega) (by omega)]; rfl
  simp only [rb11, E11, R, o, og, c, n, m, f, sy_get, sy_del, sy_del0, sy_put, sy_put0, sy_mv, sy_cp, sy_val, sy_nil, sy_cons, sy_ops0, so_move, sg_move, so_pick, sg_pick, so_box, sg_box, so_len, sg_len, so_bin, sg_bin, so_un, sg_un, so_iface, sg_iface, so_call, sg_call, so_fadd, sg_fadd, so_load, sg_load, so_idxS, sg_idxS, so_append, sg_append, so_mkslice, sg_mkslice, so_mm, sg_mm, so_extract, sg_extract, so_assert, sg_assert, so_eqvI, sg_eqvI, so_store, sg_store, so_clone, sg_clone, so_fld, sg_fld, runOp, sy_wanted, sy_skip, sy_exit, sy_ret, sy_region, sy_seq, sy_cond, sy_block, sy_move, sy_pick, sy_bin, sy_len, sy_iface, sy_not, sy_eqvI, sy_call, sy_fadd, sy_faddE, sy_extract, sy_assert, sy_eql, sy_neq, sy_lss, sy_gtr, sy_geq, sy_mul, sy_add, sy_rem, nz_int, nz_bool, nz_slice, nz_ptr, nz_iface, nz_niliface, nz_agg, nz1_int, nz1_bool, nz1_slice, nz1_iface, nz1_niliface, nz1_agg, nz0_int, nz0_slice, fr_int, fr_bool, fr_slice, fr_ptr, fr_eptr, fr_iface, fr_niliface, fr_agg, fr_tuple, fl_int, sy_start0, sy_start, sy_isNil1, sy_isNil2, Option.bind_some, Option.map_some, Option.bind_none, Option.map_none, cond_true, cond_false, if_true, if_false, List.map_cons, List.map_nil, Nat.reduceEqDiff, reduceIte, sy_beq, decide_true, decide_false, Nat.reduceAdd, reduceCtorEq, gt_iff_lt, ge_iff_le, bb_tt, bb_tf, bb_ft, bb_ff, Bool.not_true, Bool.not_false, nz_tuple, List.getElem?_cons_zero, List.getElem?_cons_succ, h1, h2, hw, Nat.zero_add, ld14, ld24, ldE, idx1_core hx rfl]

set_option maxHeartbeats 400000 in
theorem round11' (k : Nat) {p0 p1 : PVal} {a b c1 d : Int} {l : List (List PVal)} {ob : MObj} {x : Int} (hx : l[0]? = some [.int .i64 x]) :
    evCode globs (evFn globs tab noext L k) L rb11 ⟨E11' p0 p1 l.length, M3 a b c1 d l ob⟩ = some (.normal, ⟨E11 p0 p1 l.length 1 0, M3 a b c1 d l ob⟩) := by
  have hi : 0 < l.length := (List.getElem?_eq_some_iff.1 hx).1
  have h1 : ((0 : Int) < (l.length : Int)) = True := by simp; omega
  have h2 : (x != x) = false := by simp
  have hw : IntKind.i64.wrap ((0 : Int) + 1) = ((1 : Nat) : Int) := rfl
  have hidx := idx1_core (call := evFn globs tab noext L k) (cp := .no) hx rfl .i64 (M3 a b c1 d l ob)
  have e0 : (((0 : Nat) : Int)) = 0 := rfl
  rw [e0] at hidx
  simp only [rb11, E11', E11, R, o, og, c, n, m, f, sy_get, sy_del, sy_del0, sy_put, sy_put0, sy_mv, sy_cp, sy_val, sy_nil, sy_cons, sy_ops0, so_move, sg_move, so_pick, sg_pick, so_box, sg_box, so_len, sg_len, so_bin, sg_bin, so_un, sg_un, so_iface, sg_iface, so_call, sg_call, so_fadd, sg_fadd, so_load, sg_load, so_idxS, sg_idxS, so_append, sg_append, so_mkslice, sg_mkslice, so_mm, sg_mm, so_extract, sg_extract, so_assert, sg_assert, so_eqvI, sg_eqvI, so_store, sg_store, so_clone, sg_clone, so_fld, sg_fld, runOp, sy_wanted, sy_skip, sy_exit, sy_ret, sy_region, sy_seq, sy_cond, sy_block, sy_move, sy_pick, sy_bin, sy_len, sy_iface, sy_not, sy_eqvI, sy_call, sy_fadd, sy_faddE, sy_extract, sy_assert, sy_eql, sy_neq, sy_lss, sy_gtr, sy_geq, sy_mul, sy_add, sy_rem, nz_int, nz_bool, nz_slice, nz_ptr, nz_iface, nz_niliface, nz_agg, nz1_int, nz1_bool, nz1_slice, nz1_iface, nz1_niliface, nz1_agg, nz0_int, nz0_slice, fr_int, fr_bool, fr_slice, fr_ptr, fr_eptr, fr_iface, fr_niliface, fr_agg, fr_tuple, fl_int, sy_start0, sy_start, sy_isNil1, sy_isNil2, Option.bind_some, Option.map_some, Option.bind_none, Option.map_none, cond_true, cond_false, if_true, if_false, List.map_cons, List.map_nil, Nat.reduceEqDiff, reduceIte, sy_beq, decide_true, decide_false, Nat.reduceAdd, reduceCtorEq, gt_iff_lt, ge_iff_le, bb_tt, bb_tf, bb_ft, bb_ff, Bool.not_true, Bool.not_false, nz_tuple, List.getElem?_cons_zero, List.getElem?_cons_succ, h1, h2, hw, Nat.zero_add, ld14, ld24, ldE, hidx]
  rfl

set_option maxHeartbeats 400000 in
theorem exit11 (k : Nat) {p0 p1 : PVal} {a b c1 d : Int} {l : List (List PVal)} {ob : MObj} {j : Nat} :
    ∃ env, evCode globs (evFn globs tab noext L k) L rb11 ⟨E11 p0 p1 l.length l.length j, M3 a b c1 d l ob⟩ = some (.exit 0, ⟨env, M3 a b c1 d l ob⟩) := by
  have h1 : ((l.length : Int) < (l.length : Int)) = False := by simp
  simp only [rb11, E11, R, o, og, c, n, m, f, sy_get, sy_del, sy_del0, sy_put, sy_put0, sy_mv, sy_cp, sy_val, sy_nil, sy_cons, sy_ops0, so_move, sg_move, so_pick, sg_pick, so_box, sg_box, so_len, sg_len, so_bin, sg_bin, so_un, sg_un, so_iface, sg_iface, so_call, sg_call, so_fadd, sg_fadd, so_load, sg_load, so_idxS, sg_idxS, so_append, sg_append, so_mkslice, sg_mkslice, so_mm, sg_mm, so_extract, sg_extract, so_assert, sg_assert, so_eqvI, sg_eqvI, so_store, sg_store, so_clone, sg_clone, so_fld, sg_fld, runOp, sy_wanted, sy_skip, sy_exit, sy_ret, sy_region, sy_seq, sy_cond, sy_block, sy_move, sy_pick, sy_bin, sy_len, sy_iface, sy_not, sy_eqvI, sy_call, sy_fadd, sy_faddE, sy_extract, sy_assert, sy_eql, sy_neq, sy_lss, sy_gtr, sy_geq, sy_mul, sy_add, sy_rem, nz_int, nz_bool, nz_slice, nz_ptr, nz_iface, nz_niliface, nz_agg, nz1_int, nz1_bool, nz1_slice, nz1_iface, nz1_niliface, nz1_agg, nz0_int, nz0_slice, fr_int, fr_bool, fr_slice, fr_ptr, fr_eptr, fr_iface, fr_niliface, fr_agg, fr_tuple, fl_int, sy_start0, sy_start, sy_isNil1, sy_isNil2, Option.bind_some, Option.map_some, Option.bind_none, Option.map_none, cond_true, cond_false, if_true, if_false, List.map_cons, List.map_nil, Nat.reduceEqDiff, reduceIte, sy_beq, decide_true, decide_false, Nat.reduceAdd, reduceCtorEq, gt_iff_lt, ge_iff_le, bb_tt, bb_tf, bb_ft, bb_ff, Bool.not_true, Bool.not_false, nz_tuple, List.getElem?_cons_zero, List.getElem?_cons_succ, h1]
  exact ⟨_, rfl⟩
set_option maxHeartbeats 400000 in
theorem exit11' (k : Nat) {p0 p1 : PVal} {a b c1 d : Int} {l : List (List PVal)} {ob : MObj} :
    ∃ env, evCode globs (evFn globs tab noext L k) L rb11 ⟨E11' p0 p1 0, M3 a b c1 d l ob⟩ = some (.exit 0, ⟨env, M3 a b c1 d l ob⟩) := by
  have h1 : ((0 : Int) < ((0 : Nat) : Int)) = False := by simp
  simp only [rb11, E11', R, o, og, c, n, m, f, sy_get, sy_del, sy_del0, sy_put, sy_put0, sy_mv, sy_cp, sy_val, sy_nil, sy_cons, sy_ops0, so_move, sg_move, so_pick, sg_pick, so_box, sg_box, so_len, sg_len, so_bin, sg_bin, so_un, sg_un, so_iface, sg_iface, so_call, sg_call, so_fadd, sg_fadd, so_load, sg_load, so_idxS, sg_idxS, so_append, sg_append, so_mkslice, sg_mkslice, so_mm, sg_mm, so_extract, sg_extract, so_assert, sg_assert, so_eqvI, sg_eqvI, so_store, sg_store, so_clone, sg_clone, so_fld, sg_fld, runOp, sy_wanted, sy_skip, sy_exit, sy_ret, sy_region, sy_seq, sy_cond, sy_block, sy_move, sy_pick, sy_bin, sy_len, sy_iface, sy_not, sy_eqvI, sy_call, sy_fadd, sy_faddE, sy_extract, sy_assert, sy_eql, sy_neq, sy_lss, sy_gtr, sy_geq, sy_mul, sy_add, sy_rem, nz_int, nz_bool, nz_slice, nz_ptr, nz_iface, nz_niliface, nz_agg, nz1_int, nz1_bool, nz1_slice, nz1_iface, nz1_niliface, nz1_agg, nz0_int, nz0_slice, fr_int, fr_bool, fr_slice, fr_ptr, fr_eptr, fr_iface, fr_niliface, fr_agg, fr_tuple, fl_int, sy_start0, sy_start, sy_isNil1, sy_isNil2, Option.bind_some, Option.map_some, Option.bind_none, Option.map_none, cond_true, cond_false, if_true, if_false, List.map_cons, List.map_nil, Nat.reduceEqDiff, reduceIte, sy_beq, decide_true, decide_false, Nat.reduceAdd, reduceCtorEq, gt_iff_lt, ge_iff_le, bb_tt, bb_tf, bb_ft, bb_ff, Bool.not_true, Bool.not_false, nz_tuple, List.getElem?_cons_zero, List.getElem?_cons_succ, h1]
  exact ⟨_, rfl⟩

theorem loop11 (k : Nat) {p0 p1 : PVal} {a b c1 d : Int} {l : List (List PVal)} {ob : MObj} (hl : ∀ y, y ∈ l → ∃ n, y = [.int .i64 n]) (hb : l.length ≤ 1048576) : ∀ (dd fuel i j : Nat), i + dd = l.length → dd + 1 ≤ fuel →
    ∃ env, evLoop true (evCode globs (evFn globs tab noext L k) L rb11) fuel ⟨E11 p0 p1 l.length i j, M3 a b c1 d l ob⟩ = some (.exit 0, ⟨env, M3 a b c1 d l ob⟩)
  | 0, 0, i, j, h, hf => by omega
  | 0, fuel + 1, i, j, h, hf => by
    obtain rfl : i = l.length := by omega
    obtain ⟨env, he⟩ := exit11 (L := L) k (p0 := p0) (p1 := p1) (a := a) (b := b) (c1 := c1) (d := d) (l := l) (ob := ob) (j := j)
    exact ⟨env, by simp only [evLoop, he, Option.bind_some]⟩
  | dd + 1, 0, i, j, h, hf => by omega
  | dd + 1, fuel + 1, i, j, h, hf => by
    have hi : i < l.length := by omega
    obtain ⟨x, hx⟩ := hl l[i] (List.getElem_mem hi)
    have hx' : l[i]? = some [.int .i64 x] := by rw [List.getElem?_eq_getElem hi, hx]
    have hr := round11 (L := L) k (p0 := p0) (p1 := p1) (a := a) (b := b) (c1 := c1) (d := d) (ob := ob) (j := j) hx' hb
    obtain ⟨env, h1⟩ := loop11 k (p0 := p0) (p1 := p1) (a := a) (b := b) (c1 := c1) (d := d) (ob := ob) hl hb dd fuel (i + 1) i (by omega) (by omega)
    refine ⟨env, ?_⟩
    simp only [evLoop, hr, Option.bind_some]
    exact h1

end
end Go.Ev.T3

namespace Go.Ev.T3
open Go.Ev
set_option linter.unusedSimpArgs false
set_option maxHeartbeats 400000 in
theorem cA {call : CallF} {P0 P1 : PVal} {a b c1 d : Int} {l : List (List PVal)} {ob : MObj} : evOps globs call [o 6 (.fadd 0) [c 2], o 7 (.load false 1 false) [m 6], o 8 (.fadd 0) [c 3], o 9 (.load false 1 false) [m 8], o 10 (.bin .neq) [m 7, m 9], o 11 .move [m 10]] ⟨[(4, .bool false), (3, .ptr 2 0), (2, .ptr 1 0), (0, P0), (1, P1)], M3 a b c1 d l ob⟩ = some ⟨[(11, .bool false), (4, .bool false), (3, .ptr 2 0), (2, .ptr 1 0), (0, P0), (1, P1)], M3 a b c1 d l ob⟩ := by
  have na : (a != a) = false := by simp
  have nb : (b != b) = false := by simp
  have nc : (c1 != c1) = false := by simp
  have nd : (d != d) = false := by simp
  have nl : ((l.length : Int) != (l.length : Int)) = false := by simp
  simp only [R, o, og, c, n, m, f, sy_get, sy_del, sy_del0, sy_put, sy_put0, sy_mv, sy_cp, sy_val, sy_nil, sy_cons, sy_ops0, so_move, sg_move, so_pick, sg_pick, so_box, sg_box, so_len, sg_len, so_bin, sg_bin, so_un, sg_un, so_iface, sg_iface, so_call, sg_call, so_fadd, sg_fadd, so_load, sg_load, so_idxS, sg_idxS, so_append, sg_append, so_mkslice, sg_mkslice, so_mm, sg_mm, so_extract, sg_extract, so_assert, sg_assert, so_eqvI, sg_eqvI, so_store, sg_store, so_clone, sg_clone, so_fld, sg_fld, runOp, sy_wanted, sy_skip, sy_exit, sy_ret, sy_region, sy_seq, sy_cond, sy_block, sy_move, sy_pick, sy_bin, sy_len, sy_iface, sy_not, sy_eqvI, sy_call, sy_fadd, sy_faddE, sy_extract, sy_assert, sy_eql, sy_neq, sy_lss, sy_gtr, sy_geq, sy_mul, sy_add, sy_rem, nz_int, nz_bool, nz_slice, nz_ptr, nz_iface, nz_niliface, nz_agg, nz1_int, nz1_bool, nz1_slice, nz1_iface, nz1_niliface, nz1_agg, nz0_int, nz0_slice, fr_int, fr_bool, fr_slice, fr_ptr, fr_eptr, fr_iface, fr_niliface, fr_agg, fr_tuple, fl_int, sy_start0, sy_start, sy_isNil1, sy_isNil2, Option.bind_some, Option.map_some, Option.bind_none, Option.map_none, cond_true, cond_false, if_true, if_false, List.map_cons, List.map_nil, Nat.reduceEqDiff, reduceIte, sy_beq, decide_true, decide_false, Nat.reduceAdd, reduceCtorEq, gt_iff_lt, ge_iff_le, bb_tt, bb_tf, bb_ft, bb_ff, Bool.not_true, Bool.not_false, nz_tuple, List.getElem?_cons_zero, List.getElem?_cons_succ, Nat.zero_add, ld10, ld11, ld12, ld13, ld14, ld20, ld21, ld22, ld23, ld24, na, nb, nc, nd, nl]
set_option maxHeartbeats 400000 in
theorem cB {call : CallF} {P0 P1 : PVal} {a b c1 d : Int} {l : List (List PVal)} {ob : MObj} : evOps globs call [og 12 (.fadd 1) [c 2] 11 false, og 13 (.load false 1 false) [m 12] 11 false, og 14 (.fadd 1) [c 3] 11 false, og 15 (.load false 1 false) [m 14] 11 false, og 16 (.bin .neq) [m 13, m 15] 11 false, o 17 .pick [m 11, .val (.bool true), m 16], o 18 .move [m 17]] ⟨[(11, .bool false), (4, .bool false), (3, .ptr 2 0), (2, .ptr 1 0), (0, P0), (1, P1)], M3 a b c1 d l ob⟩ = some ⟨[(18, .bool false), (4, .bool false), (3, .ptr 2 0), (2, .ptr 1 0), (0, P0), (1, P1)], M3 a b c1 d l ob⟩ := by
  have na : (a != a) = false := by simp
  have nb : (b != b) = false := by simp
  have nc : (c1 != c1) = false := by simp
  have nd : (d != d) = false := by simp
  have nl : ((l.length : Int) != (l.length : Int)) = false := by simp
  simp only [R, o, og, c, n, m, f, sy_get, sy_del, sy_del0, sy_put, sy_put0, sy_mv, sy_cp, sy_val, sy_nil, sy_cons, sy_ops0, so_move, sg_move, so_pick, sg_pick, so_box, sg_box, so_len, sg_len, so_bin, sg_bin, so_un, sg_un, so_iface, sg_iface, so_call, sg_call, so_fadd, sg_fadd, so_load, sg_load, so_idxS, sg_idxS, so_append, sg_append, so_mkslice, sg_mkslice, so_mm, sg_mm, so_extract, sg_extract, so_assert, sg_assert, so_eqvI, sg_eqvI, so_store, sg_store, so_clone, sg_clone, so_fld, sg_fld, runOp, sy_wanted, sy_skip, sy_exit, sy_ret, sy_region, sy_seq, sy_cond, sy_block, sy_move, sy_pick, sy_bin, sy_len, sy_iface, sy_not, sy_eqvI, sy_call, sy_fadd, sy_faddE, sy_extract, sy_assert, sy_eql, sy_neq, sy_lss, sy_gtr, sy_geq, sy_mul, sy_add, sy_rem, nz_int, nz_bool, nz_slice, nz_ptr, nz_iface, nz_niliface, nz_agg, nz1_int, nz1_bool, nz1_slice, nz1_iface, nz1_niliface, nz1_agg, nz0_int, nz0_slice, fr_int, fr_bool, fr_slice, fr_ptr, fr_eptr, fr_iface, fr_niliface, fr_agg, fr_tuple, fl_int, sy_start0, sy_start, sy_isNil1, sy_isNil2, Option.bind_some, Option.map_some, Option.bind_none, Option.map_none, cond_true, cond_false, if_true, if_false, List.map_cons, List.map_nil, Nat.reduceEqDiff, reduceIte, sy_beq, decide_true, decide_false, Nat.reduceAdd, reduceCtorEq, gt_iff_lt, ge_iff_le, bb_tt, bb_tf, bb_ft, bb_ff, Bool.not_true, Bool.not_false, nz_tuple, List.getElem?_cons_zero, List.getElem?_cons_succ, Nat.zero_add, ld10, ld11, ld12, ld13, ld14, ld20, ld21, ld22, ld23, ld24, na, nb, nc, nd, nl]
set_option maxHeartbeats 400000 in
theorem cC {call : CallF} {P0 P1 : PVal} {a b c1 d : Int} {l : List (List PVal)} {ob : MObj} : evOps globs call [og 19 (.fadd 2) [c 2] 18 false, og 20 (.load false 1 false) [m 19] 18 false, og 21 (.fadd 2) [c 3] 18 false, og 22 (.load false 1 false) [m 21] 18 false, og 23 (.bin .neq) [m 20, m 22] 18 false, o 24 .pick [m 18, .val (.bool true), m 23], o 25 .move [m 24]] ⟨[(18, .bool false), (4, .bool false), (3, .ptr 2 0), (2, .ptr 1 0), (0, P0), (1, P1)], M3 a b c1 d l ob⟩ = some ⟨[(25, .bool false), (4, .bool false), (3, .ptr 2 0), (2, .ptr 1 0), (0, P0), (1, P1)], M3 a b c1 d l ob⟩ := by
  have na : (a != a) = false := by simp
  have nb : (b != b) = false := by simp
  have nc : (c1 != c1) = false := by simp
  have nd : (d != d) = false := by simp
  have nl : ((l.length : Int) != (l.length : Int)) = false := by simp
  simp only [R, o, og, c, n, m, f, sy_get, sy_del, sy_del0, sy_put, sy_put0, sy_mv, sy_cp, sy_val, sy_nil, sy_cons, sy_ops0, so_move, sg_move, so_pick, sg_pick, so_box, sg_box, so_len, sg_len, so_bin, sg_bin, so_un, sg_un, so_iface, sg_iface, so_call, sg_call, so_fadd, sg_fadd, so_load, sg_load, so_idxS, sg_idxS, so_append, sg_append, so_mkslice, sg_mkslice, so_mm, sg_mm, so_extract, sg_extract, so_assert, sg_assert, so_eqvI, sg_eqvI, so_store, sg_store, so_clone, sg_clone, so_fld, sg_fld, runOp, sy_wanted, sy_skip, sy_exit, sy_ret, sy_region, sy_seq, sy_cond, sy_block, sy_move, sy_pick, sy_bin, sy_len, sy_iface, sy_not, sy_eqvI, sy_call, sy_fadd, sy_faddE, sy_extract, sy_assert, sy_eql, sy_neq, sy_lss, sy_gtr, sy_geq, sy_mul, sy_add, sy_rem, nz_int, nz_bool, nz_slice, nz_ptr, nz_iface, nz_niliface, nz_agg, nz1_int, nz1_bool, nz1_slice, nz1_iface, nz1_niliface, nz1_agg, nz0_int, nz0_slice, fr_int, fr_bool, fr_slice, fr_ptr, fr_eptr, fr_iface, fr_niliface, fr_agg, fr_tuple, fl_int, sy_start0, sy_start, sy_isNil1, sy_isNil2, Option.bind_some, Option.map_some, Option.bind_none, Option.map_none, cond_true, cond_false, if_true, if_false, List.map_cons, List.map_nil, Nat.reduceEqDiff, reduceIte, sy_beq, decide_true, decide_false, Nat.reduceAdd, reduceCtorEq, gt_iff_lt, ge_iff_le, bb_tt, bb_tf, bb_ft, bb_ff, Bool.not_true, Bool.not_false, nz_tuple, List.getElem?_cons_zero, List.getElem?_cons_succ, Nat.zero_add, ld10, ld11, ld12, ld13, ld14, ld20, ld21, ld22, ld23, ld24, na, nb, nc, nd, nl]
set_option maxHeartbeats 400000 in
theorem cD {call : CallF} {P0 P1 : PVal} {a b c1 d : Int} {l : List (List PVal)} {ob : MObj} : evOps globs call [og 26 (.fadd 3) [c 2] 25 false, og 27 (.load false 1 false) [m 26] 25 false, og 28 (.fadd 3) [c 3] 25 false, og 29 (.load false 1 false) [m 28] 25 false, og 30 (.bin .neq) [m 27, m 29] 25 false, o 31 .pick [m 25, .val (.bool true), m 30], o 32 .move [m 31]] ⟨[(25, .bool false), (4, .bool false), (3, .ptr 2 0), (2, .ptr 1 0), (0, P0), (1, P1)], M3 a b c1 d l ob⟩ = some ⟨[(32, .bool false), (4, .bool false), (3, .ptr 2 0), (2, .ptr 1 0), (0, P0), (1, P1)], M3 a b c1 d l ob⟩ := by
  have na : (a != a) = false := by simp
  have nb : (b != b) = false := by simp
  have nc : (c1 != c1) = false := by simp
  have nd : (d != d) = false := by simp
  have nl : ((l.length : Int) != (l.length : Int)) = false := by simp
  simp only [R, o, og, c, n, m, f, sy_get, sy_del, sy_del0, sy_put, sy_put0, sy_mv, sy_cp, sy_val, sy_nil, sy_cons, sy_ops0, so_move, sg_move, so_pick, sg_pick, so_box, sg_box, so_len, sg_len, so_bin, sg_bin, so_un, sg_un, so_iface, sg_iface, so_call, sg_call, so_fadd, sg_fadd, so_load, sg_load, so_idxS, sg_idxS, so_append, sg_append, so_mkslice, sg_mkslice, so_mm, sg_mm, so_extract, sg_extract, so_assert, sg_assert, so_eqvI, sg_eqvI, so_store, sg_store, so_clone, sg_clone, so_fld, sg_fld, runOp, sy_wanted, sy_skip, sy_exit, sy_ret, sy_region, sy_seq, sy_cond, sy_block, sy_move, sy_pick, sy_bin, sy_len, sy_iface, sy_not, sy_eqvI, sy_call, sy_fadd, sy_faddE, sy_extract, sy_assert, sy_eql, sy_neq, sy_lss, sy_gtr, sy_geq, sy_mul, sy_add, sy_rem, nz_int, nz_bool, nz_slice, nz_ptr, nz_iface, nz_niliface, nz_agg, nz1_int, nz1_bool, nz1_slice, nz1_iface, nz1_niliface, nz1_agg, nz0_int, nz0_slice, fr_int, fr_bool, fr_slice, fr_ptr, fr_eptr, fr_iface, fr_niliface, fr_agg, fr_tuple, fl_int, sy_start0, sy_start, sy_isNil1, sy_isNil2, Option.bind_some, Option.map_some, Option.bind_none, Option.map_none, cond_true, cond_false, if_true, if_false, List.map_cons, List.map_nil, Nat.reduceEqDiff, reduceIte, sy_beq, decide_true, decide_false, Nat.reduceAdd, reduceCtorEq, gt_iff_lt, ge_iff_le, bb_tt, bb_tf, bb_ft, bb_ff, Bool.not_true, Bool.not_false, nz_tuple, List.getElem?_cons_zero, List.getElem?_cons_succ, Nat.zero_add, ld10, ld11, ld12, ld13, ld14, ld20, ld21, ld22, ld23, ld24, na, nb, nc, nd, nl]
set_option maxHeartbeats 400000 in
theorem cE {call : CallF} {P0 P1 : PVal} {a b c1 d : Int} {l : List (List PVal)} {ob : MObj} : evOps globs call [og 33 (.fadd 4) [c 2] 32 false, og 34 (.load false 1 false) [m 33] 32 false, og 35 (.len 0) [m 34] 32 false, og 36 (.fadd 4) [c 3] 32 false, og 37 (.load false 1 false) [m 36] 32 false, og 38 (.len 0) [m 37] 32 false, og 39 (.bin .neq) [m 35, m 38] 32 false, o 40 .pick [m 32, .val (.bool true), m 39]] ⟨[(32, .bool false), (4, .bool false), (3, .ptr 2 0), (2, .ptr 1 0), (0, P0), (1, P1)], M3 a b c1 d l ob⟩ = some ⟨[(40, .bool false), (4, .bool false), (3, .ptr 2 0), (2, .ptr 1 0), (0, P0), (1, P1)], M3 a b c1 d l ob⟩ := by
  have na : (a != a) = false := by simp
  have nb : (b != b) = false := by simp
  have nc : (c1 != c1) = false := by simp
  have nd : (d != d) = false := by simp
  have nl : ((l.length : Int) != (l.length : Int)) = false := by simp
  simp only [R, o, og, c, n, m, f, sy_get, sy_del, sy_del0, sy_put, sy_put0, sy_mv, sy_cp, sy_val, sy_nil, sy_cons, sy_ops0, so_move, sg_move, so_pick, sg_pick, so_box, sg_box, so_len, sg_len, so_bin, sg_bin, so_un, sg_un, so_iface, sg_iface, so_call, sg_call, so_fadd, sg_fadd, so_load, sg_load, so_idxS, sg_idxS, so_append, sg_append, so_mkslice, sg_mkslice, so_mm, sg_mm, so_extract, sg_extract, so_assert, sg_assert, so_eqvI, sg_eqvI, so_store, sg_store, so_clone, sg_clone, so_fld, sg_fld, runOp, sy_wanted, sy_skip, sy_exit, sy_ret, sy_region, sy_seq, sy_cond, sy_block, sy_move, sy_pick, sy_bin, sy_len, sy_iface, sy_not, sy_eqvI, sy_call, sy_fadd, sy_faddE, sy_extract, sy_assert, sy_eql, sy_neq, sy_lss, sy_gtr, sy_geq, sy_mul, sy_add, sy_rem, nz_int, nz_bool, nz_slice, nz_ptr, nz_iface, nz_niliface, nz_agg, nz1_int, nz1_bool, nz1_slice, nz1_iface, nz1_niliface, nz1_agg, nz0_int, nz0_slice, fr_int, fr_bool, fr_slice, fr_ptr, fr_eptr, fr_iface, fr_niliface, fr_agg, fr_tuple, fl_int, sy_start0, sy_start, sy_isNil1, sy_isNil2, Option.bind_some, Option.map_some, Option.bind_none, Option.map_none, cond_true, cond_false, if_true, if_false, List.map_cons, List.map_nil, Nat.reduceEqDiff, reduceIte, sy_beq, decide_true, decide_false, Nat.reduceAdd, reduceCtorEq, gt_iff_lt, ge_iff_le, bb_tt, bb_tf, bb_ft, bb_ff, Bool.not_true, Bool.not_false, nz_tuple, List.getElem?_cons_zero, List.getElem?_cons_succ, Nat.zero_add, ld10, ld11, ld12, ld13, ld14, ld20, ld21, ld22, ld23, ld24, na, nb, nc, nd, nl]

theorem evOps_app_of {globs : Nat → Option (List PVal)} {call : CallF} {as bs : List MOper} {s s1 : MSt} {r : Option MSt} (h : evOps globs call as s = some s1) (h2 : evOps globs call bs s1 = r) : evOps globs call (as ++ bs) s = r := by
  rw [evOps_append, h]; exact h2
theorem seq_region {globs : Nat → Option (List PVal)} {call : CallF} {L : Nat} {ops : List MOper} {b : MCode} {s s1 : MSt} {r : Option (MExit × MSt)} (h : evOps globs call ops s = some s1) (h2 : evCode globs call L b s1 = r) : evCode globs call L (.seq (.region ops []) b) s = r := by
  rw [sy_seq, sy_region, h]; exact h2
theorem seq_of {globs : Nat → Option (List PVal)} {call : CallF} {L : Nat} {a b : MCode} {s s1 : MSt} {r : Option (MExit × MSt)} (h : evCode globs call L a s = some (.normal, s1)) (h2 : evCode globs call L b s1 = r) : evCode globs call L (.seq a b) s = r := by
  rw [sy_seq, h]; exact h2

theorem cAll {call : CallF} {P0 P1 : PVal} {a b c1 d : Int} {l : List (List PVal)} {ob : MObj} : evOps globs call [o 6 (.fadd 0) [c 2], o 7 (.load false 1 false) [m 6], o 8 (.fadd 0) [c 3], o 9 (.load false 1 false) [m 8], o 10 (.bin .neq) [m 7, m 9], o 11 .move [m 10], og 12 (.fadd 1) [c 2] 11 false, og 13 (.load false 1 false) [m 12] 11 false, og 14 (.fadd 1) [c 3] 11 false, og 15 (.load false 1 false) [m 14] 11 false, og 16 (.bin .neq) [m 13, m 15] 11 false, o 17 .pick [m 11, .val (.bool true), m 16], o 18 .move [m 17], og 19 (.fadd 2) [c 2] 18 false, og 20 (.load false 1 false) [m 19] 18 false, og 21 (.fadd 2) [c 3] 18 false, og 22 (.load false 1 false) [m 21] 18 false, og 23 (.bin .neq) [m 20, m 22] 18 false, o 24 .pick [m 18, .val (.bool true), m 23], o 25 .move [m 24], og 26 (.fadd 3) [c 2] 25 false, og 27 (.load false 1 false) [m 26] 25 false, og 28 (.fadd 3) [c 3] 25 false, og 29 (.load false 1 false) [m 28] 25 false, og 30 (.bin .neq) [m 27, m 29] 25 false, o 31 .pick [m 25, .val (.bool true), m 30], o 32 .move [m 31], og 33 (.fadd 4) [c 2] 32 false, og 34 (.load false 1 false) [m 33] 32 false, og 35 (.len 0) [m 34] 32 false, og 36 (.fadd 4) [c 3] 32 false, og 37 (.load false 1 false) [m 36] 32 false, og 38 (.len 0) [m 37] 32 false, og 39 (.bin .neq) [m 35, m 38] 32 false, o 40 .pick [m 32, .val (.bool true), m 39]] ⟨[(4, .bool false), (3, .ptr 2 0), (2, .ptr 1 0), (0, P0), (1, P1)], M3 a b c1 d l ob⟩ = some ⟨[(40, .bool false), (4, .bool false), (3, .ptr 2 0), (2, .ptr 1 0), (0, P0), (1, P1)], M3 a b c1 d l ob⟩ := by
  show evOps globs call ([o 6 (.fadd 0) [c 2], o 7 (.load false 1 false) [m 6], o 8 (.fadd 0) [c 3], o 9 (.load false 1 false) [m 8], o 10 (.bin .neq) [m 7, m 9], o 11 .move [m 10]] ++ ([og 12 (.fadd 1) [c 2] 11 false, og 13 (.load false 1 false) [m 12] 11 false, og 14 (.fadd 1) [c 3] 11 false, og 15 (.load false 1 false) [m 14] 11 false, og 16 (.bin .neq) [m 13, m 15] 11 false, o 17 .pick [m 11, .val (.bool true), m 16], o 18 .move [m 17]] ++ ([og 19 (.fadd 2) [c 2] 18 false, og 20 (.load false 1 false) [m 19] 18 false, og 21 (.fadd 2) [c 3] 18 false, og 22 (.load false 1 false) [m 21] 18 false, og 23 (.bin .neq) [m 20, m 22] 18 false, o 24 .pick [m 18, .val (.bool true), m 23], o 25 .move [m 24]] ++ ([og 26 (.fadd 3) [c 2] 25 false, og 27 (.load false 1 false) [m 26] 25 false, og 28 (.fadd 3) [c 3] 25 false, og 29 (.load false 1 false) [m 28] 25 false, og 30 (.bin .neq) [m 27, m 29] 25 false, o 31 .pick [m 25, .val (.bool true), m 30], o 32 .move [m 31]] ++ [og 33 (.fadd 4) [c 2] 32 false, og 34 (.load false 1 false) [m 33] 32 false, og 35 (.len 0) [m 34] 32 false, og 36 (.fadd 4) [c 3] 32 false, og 37 (.load false 1 false) [m 36] 32 false, og 38 (.len 0) [m 37] 32 false, og 39 (.bin .neq) [m 35, m 38] 32 false, o 40 .pick [m 32, .val (.bool true), m 39]])))) _ = _
  exact evOps_app_of cA (evOps_app_of cB (evOps_app_of cC (evOps_app_of cD cE)))
end Go.Ev.T3

namespace Go.Ev.T3
open Go.Ev
set_option linter.unusedSimpArgs false
section
variable {L : Nat}
set_option maxHeartbeats 400000 in
theorem same_ok (k : Nat) (a b c1 d : Int) (l : List (List PVal)) (ob : MObj) (hl : ∀ y, y ∈ l → ∃ n, y = [.int .i64 n]) (hb : l.length ≤ 1048576) (hL : 1048577 ≤ L) :
    evFn globs tab noext L (k + 1) (.func 11 []) [.agg (D a b c1 d l), .agg (D a b c1 d l)] (M1 ob) = some (.bool true, M1 ob) := by
  have hbody : mc11.body = .seq (R [o 2 (.box false) [c 0], o 3 (.box false) [c 1], o 4 .move [.val (.bool false)]]) (.seq (.seq (R [o 6 (.fadd 0) [c 2], o 7 (.load false 1 false) [m 6], o 8 (.fadd 0) [c 3], o 9 (.load false 1 false) [m 8], o 10 (.bin .neq) [m 7, m 9], o 11 .move [m 10], og 12 (.fadd 1) [c 2] 11 false, og 13 (.load false 1 false) [m 12] 11 false, og 14 (.fadd 1) [c 3] 11 false, og 15 (.load false 1 false) [m 14] 11 false, og 16 (.bin .neq) [m 13, m 15] 11 false, o 17 .pick [m 11, .val (.bool true), m 16], o 18 .move [m 17], og 19 (.fadd 2) [c 2] 18 false, og 20 (.load false 1 false) [m 19] 18 false, og 21 (.fadd 2) [c 3] 18 false, og 22 (.load false 1 false) [m 21] 18 false, og 23 (.bin .neq) [m 20, m 22] 18 false, o 24 .pick [m 18, .val (.bool true), m 23], o 25 .move [m 24], og 26 (.fadd 3) [c 2] 25 false, og 27 (.load false 1 false) [m 26] 25 false, og 28 (.fadd 3) [c 3] 25 false, og 29 (.load false 1 false) [m 28] 25 false, og 30 (.bin .neq) [m 27, m 29] 25 false, o 31 .pick [m 25, .val (.bool true), m 30], o 32 .move [m 31], og 33 (.fadd 4) [c 2] 32 false, og 34 (.load false 1 false) [m 33] 32 false, og 35 (.len 0) [m 34] 32 false, og 36 (.fadd 4) [c 3] 32 false, og 37 (.load false 1 false) [m 36] 32 false, og 38 (.len 0) [m 37] 32 false, og 39 (.bin .neq) [m 35, m 38] 32 false, o 40 .pick [m 32, .val (.bool true), m 39]]) (.cond (c 40) (.seq (R [o 4 .move [.val (.bool false)]]) (.ret)) (.skip))) (.seq (.seq (R [o 41 (.fadd 4) [c 2], o 42 (.load false 1 false) [m 41], o 43 (.len 0) [m 42], o 44 .move [n 0]]) (.block 0 (.loop true rb11))) (.seq (R [o 4 .move [.val (.bool true)]]) (.ret)))) := rfl
  have e1 : evCode globs (evFn globs tab noext L k) L (R [o 2 (.box false) [c 0], o 3 (.box false) [c 1], o 4 .move [.val (.bool false)]]) ⟨startEnv 0 [.agg (D a b c1 d l), .agg (D a b c1 d l)], M1 ob⟩ = some (.normal, ⟨[(4, .bool false), (3, .ptr 2 0), (2, .ptr 1 0), (0, .agg (D a b c1 d l)), (1, .agg (D a b c1 d l))], M3 a b c1 d l ob⟩) := rfl
  have na : (a != a) = false := by simp
  have nb : (b != b) = false := by simp
  have nc : (c1 != c1) = false := by simp
  have nd : (d != d) = false := by simp
  have nl : ((l.length : Int) != (l.length : Int)) = false := by simp
  generalize hP : PVal.agg (D a b c1 d l) = P0 at e1
  have e2 : evCode globs (evFn globs tab noext L k) L (.seq (R [o 6 (.fadd 0) [c 2], o 7 (.load false 1 false) [m 6], o 8 (.fadd 0) [c 3], o 9 (.load false 1 false) [m 8], o 10 (.bin .neq) [m 7, m 9], o 11 .move [m 10], og 12 (.fadd 1) [c 2] 11 false, og 13 (.load false 1 false) [m 12] 11 false, og 14 (.fadd 1) [c 3] 11 false, og 15 (.load false 1 false) [m 14] 11 false, og 16 (.bin .neq) [m 13, m 15] 11 false, o 17 .pick [m 11, .val (.bool true), m 16], o 18 .move [m 17], og 19 (.fadd 2) [c 2] 18 false, og 20 (.load false 1 false) [m 19] 18 false, og 21 (.fadd 2) [c 3] 18 false, og 22 (.load false 1 false) [m 21] 18 false, og 23 (.bin .neq) [m 20, m 22] 18 false, o 24 .pick [m 18, .val (.bool true), m 23], o 25 .move [m 24], og 26 (.fadd 3) [c 2] 25 false, og 27 (.load false 1 false) [m 26] 25 false, og 28 (.fadd 3) [c 3] 25 false, og 29 (.load false 1 false) [m 28] 25 false, og 30 (.bin .neq) [m 27, m 29] 25 false, o 31 .pick [m 25, .val (.bool true), m 30], o 32 .move [m 31], og 33 (.fadd 4) [c 2] 32 false, og 34 (.load false 1 false) [m 33] 32 false, og 35 (.len 0) [m 34] 32 false, og 36 (.fadd 4) [c 3] 32 false, og 37 (.load false 1 false) [m 36] 32 false, og 38 (.len 0) [m 37] 32 false, og 39 (.bin .neq) [m 35, m 38] 32 false, o 40 .pick [m 32, .val (.bool true), m 39]]) (.cond (c 40) (.seq (R [o 4 .move [.val (.bool false)]]) (.ret)) (.skip))) ⟨[(4, .bool false), (3, .ptr 2 0), (2, .ptr 1 0), (0, P0), (1, P0)], M3 a b c1 d l ob⟩ = some (.normal, ⟨[(40, .bool false), (4, .bool false), (3, .ptr 2 0), (2, .ptr 1 0), (0, P0), (1, P0)], M3 a b c1 d l ob⟩) := seq_region cAll rfl
  have e3 : evCode globs (evFn globs tab noext L k) L (R [o 41 (.fadd 4) [c 2], o 42 (.load false 1 false) [m 41], o 43 (.len 0) [m 42], o 44 .move [n 0]]) ⟨[(40, .bool false), (4, .bool false), (3, .ptr 2 0), (2, .ptr 1 0), (0, P0), (1, P0)], M3 a b c1 d l ob⟩ = some (.normal, ⟨E11' P0 P0 l.length, M3 a b c1 d l ob⟩) := by
    simp only [E11', R, o, og, c, n, m, f, sy_get, sy_del, sy_del0, sy_put, sy_put0, sy_mv, sy_cp, sy_val, sy_nil, sy_cons, sy_ops0, so_move, sg_move, so_pick, sg_pick, so_box, sg_box, so_len, sg_len, so_bin, sg_bin, so_un, sg_un, so_iface, sg_iface, so_call, sg_call, so_fadd, sg_fadd, so_load, sg_load, so_idxS, sg_idxS, so_append, sg_append, so_mkslice, sg_mkslice, so_mm, sg_mm, so_extract, sg_extract, so_assert, sg_assert, so_eqvI, sg_eqvI, so_store, sg_store, so_clone, sg_clone, so_fld, sg_fld, runOp, sy_wanted, sy_skip, sy_exit, sy_ret, sy_region, sy_seq, sy_cond, sy_block, sy_move, sy_pick, sy_bin, sy_len, sy_iface, sy_not, sy_eqvI, sy_call, sy_fadd, sy_faddE, sy_extract, sy_assert, sy_eql, sy_neq, sy_lss, sy_gtr, sy_geq, sy_mul, sy_add, sy_rem, nz_int, nz_bool, nz_slice, nz_ptr, nz_iface, nz_niliface, nz_agg, nz1_int, nz1_bool, nz1_slice, nz1_iface, nz1_niliface, nz1_agg, nz0_int, nz0_slice, fr_int, fr_bool, fr_slice, fr_ptr, fr_eptr, fr_iface, fr_niliface, fr_agg, fr_tuple, fl_int, sy_start0, sy_start, sy_isNil1, sy_isNil2, Option.bind_some, Option.map_some, Option.bind_none, Option.map_none, cond_true, cond_false, if_true, if_false, List.map_cons, List.map_nil, Nat.reduceEqDiff, reduceIte, sy_beq, decide_true, decide_false, Nat.reduceAdd, reduceCtorEq, gt_iff_lt, ge_iff_le, bb_tt, bb_tf, bb_ft, bb_ff, Bool.not_true, Bool.not_false, nz_tuple, List.getElem?_cons_zero, List.getElem?_cons_succ, Nat.zero_add, ld14]
  have hloop : ∃ env, evLoop true (evCode globs (evFn globs tab noext L k) L rb11) L ⟨E11' P0 P0 l.length, M3 a b c1 d l ob⟩ = some (.exit 0, ⟨env, M3 a b c1 d l ob⟩) := by
    obtain ⟨L', rfl⟩ : ∃ L', L = L' + 1 := ⟨L - 1, by omega⟩
    by_cases h0 : l.length = 0
    · rw [h0]
      obtain ⟨env, he⟩ := exit11' (L := L' + 1) k (p0 := P0) (p1 := P0) (a := a) (b := b) (c1 := c1) (d := d) (l := l) (ob := ob)
      exact ⟨env, by simp only [evLoop, he, Option.bind_some]⟩
    · have hi : 0 < l.length := by omega
      obtain ⟨x, hx⟩ := hl l[0] (List.getElem_mem hi)
      have hx' : l[0]? = some [.int .i64 x] := by rw [List.getElem?_eq_getElem hi, hx]
      have hr := round11' (L := L' + 1) k (p0 := P0) (p1 := P0) (a := a) (b := b) (c1 := c1) (d := d) (ob := ob) hx'
      obtain ⟨env, h1⟩ := loop11 (L := L' + 1) k (p0 := P0) (p1 := P0) (a := a) (b := b) (c1 := c1) (d := d) (ob := ob) hl hb (l.length - 1) L' 1 0 (by omega) (by omega)
      refine ⟨env, ?_⟩
      simp only [evLoop, hr, Option.bind_some]
      exact h1
  obtain ⟨env, hlo⟩ := hloop
  have e4 : evCode globs (evFn globs tab noext L k) L (.block 0 (.loop true rb11)) ⟨E11' P0 P0 l.length, M3 a b c1 d l ob⟩ = some (.normal, ⟨env, M3 a b c1 d l ob⟩) := by
    rw [sy_block, sy_loop, hlo]; rfl
  have e5 : evCode globs (evFn globs tab noext L k) L (.seq (R [o 4 .move [.val (.bool true)]]) (.ret)) ⟨env, M3 a b c1 d l ob⟩ = some (.ret, ⟨(4, .bool true) :: env.del 4, M3 a b c1 d l ob⟩) := rfl
  have hall : evCode globs (evFn globs tab noext L k) L mc11.body ⟨startEnv 0 [P0, P0], M1 ob⟩ = some (.ret, ⟨(4, .bool true) :: env.del 4, M3 a b c1 d l ob⟩) := by
    rw [hbody]
    exact seq_of e1 (seq_of e2 (seq_of (seq_of e3 e4) e5))
  rw [sy_fn t11, hall]
  rfl
end
end Go.Ev.T3

