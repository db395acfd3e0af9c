/- One of the texts that the proof of the law rests on: it has no condition of its own. -/
import Derived.Test.YtdnddpefaanalaaGreatDoorSyC
namespace Go.Ev.T3
open Go.Ev
theorem t3 : tab 3 = some mc3 := rfl
set_option maxHeartbeats 1000000 in
theorem law_ok (turn : List (List PVal)) (many stop most : Int) (ht : turn.length ≤ 40) (hm : most ≤ 60) (hd : ∀ x, x ∈ turn → IsDec x) :
    evFn globs tab noext 2000000 100 (.func 3 []) [.agg [.slice turn .no, .int .i64 many, .int .i64 stop], .int .i64 most] ⟨0, [], []⟩ = some (.bool true, ⟨0, [], []⟩) := by
  have hN : manyOf turn.length many stop most ≤ 60 := by unfold manyOf; omega
  have hT : manyOf turn.length many stop most ≠ 0 → turn.length ≠ 0 := fun h h0 => by
    have : lenOf turn.length many stop = 0 := by
      unfold lenOf
      rw [if_neg]
      simp [chk, h0]
    have h2 := manyOf_int turn.length many stop most
    omega
  obtain ⟨env, hlo⟩ := loop3' (turn := turn) (many := many) (stop := stop) (most := most) (lenI := lenOf turn.length many stop) hT hd hN
  have e0 : evCode globs (evFn globs tab noext 2000000 99) 2000000 (R [o 2 (.box false) [c 0], o 4 .move [.val (.bool false)]]) ⟨startEnv 0 [.agg [.slice turn .no, .int .i64 many, .int .i64 stop], .int .i64 most], ⟨0, [], []⟩⟩ = some (.normal, ⟨[(4, .bool false), (2, .ptr 0 0), (0, .agg [.slice turn .no, .int .i64 many, .int .i64 stop]), (1, .int .i64 most)], ML turn many stop⟩) := rfl
  have e1 : evCode globs (evFn globs tab noext 2000000 99) 2000000 (.seq (R [o 8 .call [f 4], o 9 (.un .not) [m 8]]) (.cond (c 9) (.seq (R [o 4 .move [.val (.bool false)]]) (.ret)) (.skip))) ⟨[(4, .bool false), (2, .ptr 0 0), (0, .agg [.slice turn .no, .int .i64 many, .int .i64 stop]), (1, .int .i64 most)], ML turn many stop⟩ = some (.normal, ⟨[(9, .bool false), (4, .bool false), (2, .ptr 0 0), (0, .agg [.slice turn .no, .int .i64 many, .int .i64 stop]), (1, .int .i64 most)], ML turn many stop⟩) := by
    have hc : core (evFn globs tab noext 2000000 99) .call [.func 4 []] (ML turn many stop) = some (.bool true, ML turn many stop) := by
      rw [sy_call]; exact alive4 _
    have h1 : evOps globs (evFn globs tab noext 2000000 99) [o 8 .call [f 4], o 9 (.un .not) [m 8]] ⟨[(4, .bool false), (2, .ptr 0 0), (0, .agg [.slice turn .no, .int .i64 many, .int .i64 stop]), (1, .int .i64 most)], ML turn many stop⟩ = some ⟨[(9, .bool false), (4, .bool false), (2, .ptr 0 0), (0, .agg [.slice turn .no, .int .i64 many, .int .i64 stop]), (1, .int .i64 most)], ML turn many stop⟩ := by
      have r1 : runOp globs (evFn globs tab noext 2000000 99) (some 8) .call [f 4] ⟨[(4, .bool false), (2, .ptr 0 0), (0, .agg [.slice turn .no, .int .i64 many, .int .i64 stop]), (1, .int .i64 most)], ML turn many stop⟩ = some ⟨(8, .bool true) :: [(4, .bool false), (2, .ptr 0 0), (0, .agg [.slice turn .no, .int .i64 many, .int .i64 stop]), (1, .int .i64 most)], ML turn many stop⟩ := by
        have e : opds globs [f 4] [(4, .bool false), (2, .ptr 0 0), (0, .agg [.slice turn .no, .int .i64 many, .int .i64 stop]), (1, .int .i64 most)] = some ([.func 4 []], [(4, .bool false), (2, .ptr 0 0), (0, .agg [.slice turn .no, .int .i64 many, .int .i64 stop]), (1, .int .i64 most)]) := rfl
        simp only [runOp, e, Option.bind_some, hc, fr_bool, cond_false]
        rfl
      rw [so_call, r1]
      rfl
    exact seq_region h1 rfl
  have e3 : evCode globs (evFn globs tab noext 2000000 99) 2000000 (.seq (R [o 10 (.fadd 0) [c 2], o 11 (.load false 1 false) [m 10], o 12 (.len 0) [m 11], o 13 (.bin .gtr) [m 12, n 40], o 14 .move [m 13], og 15 .move [c 1] 14 false, og 16 (.bin .gtr) [m 15, n 60] 14 false, o 17 .pick [m 14, .val (.bool true), m 16]]) (.cond (c 17) (.seq (R [o 4 .move [.val (.bool true)]]) (.ret)) (.skip))) ⟨[(9, .bool false), (4, .bool false), (2, .ptr 0 0), (0, .agg [.slice turn .no, .int .i64 many, .int .i64 stop]), (1, .int .i64 most)], ML turn many stop⟩ = some (.normal, ⟨[(17, .bool false), (9, .bool false), (4, .bool false), (2, .ptr 0 0), (0, .agg [.slice turn .no, .int .i64 many, .int .i64 stop]), (1, .int .i64 most)], ML turn many stop⟩) := seq_region (r3 ht hm) rfl
  have e7 : evCode globs (evFn globs tab noext 2000000 99) 2000000 (.seq (.region ([o 33 (.fadd 0) [c 2], o 34 (.load false 1 false) [m 33], o 35 (.fadd 1) [c 2], o 36 (.load false 1 false) [m 35], o 37 .call [f 8, m 34, m 36], o 38 .call [f 7, m 37], o 39 (.fadd 0) [c 2], o 40 (.load false 1 false) [m 39], o 41 (.fadd 1) [c 2], o 42 (.load false 1 false) [m 41]] ++ ([o 43 .call [f 9, m 40, m 42], o 44 (.bin .neq) [m 38, m 43], o 45 .move [m 44]] ++ ([og 46 (.fadd 0) [c 2] 45 false, og 47 (.load false 1 false) [m 46] 45 false, og 48 (.fadd 1) [c 2] 45 false, og 49 (.load false 1 false) [m 48] 45 false, og 50 (.fadd 2) [c 2] 45 false, og 51 (.load false 1 false) [m 50] 45 false, og 52 .call [f 10, m 47, m 49, m 51] 45 false, og 53 .move [c 5] 45 false, og 54 (.bin .neq) [m 52, m 53] 45 false, o 55 .pick [c 45, .val (.bool true), m 54], o 56 .move [m 55]] ++ [og 57 .move [c 6] 56 false, og 58 (.len 0) [m 57] 56 false, og 59 .move [c 5] 56 false, og 60 .move [c 1] 56 false, og 61 (.mm true) [m 60, n 0] 56 false, og 62 (.mm false) [m 59, m 61] 56 false, og 63 (.bin .neq) [m 58, m 62] 56 false, o 64 .pick [c 56, .val (.bool true), m 63]]))) [(7, 4), (7, 5), (9, 4), (9, 5)]) (.cond (c 64) (.seq (R [o 4 .move [.val (.bool false)]]) (.ret)) (.skip))) ⟨[(6, .slice (ex turn (manyOf turn.length many stop most)) .no), (5, .int .i64 (lenOf turn.length many stop)), (17, .bool false), (9, .bool false), (4, .bool false), (2, .ptr 0 0), (0, .agg [.slice turn .no, .int .i64 many, .int .i64 stop]), (1, .int .i64 most)], ML turn many stop⟩ = some (.normal, ⟨[(64, .bool false), (56, .bool false), (45, .bool false), (6, .slice (ex turn (manyOf turn.length many stop most)) .no), (5, .int .i64 (lenOf turn.length many stop)), (17, .bool false), (9, .bool false), (4, .bool false), (2, .ptr 0 0), (0, .agg [.slice turn .no, .int .i64 many, .int .i64 stop]), (1, .int .i64 most)], ML turn many stop⟩) := seq_of (r7 hd) rfl
  have e8 : evCode globs (evFn globs tab noext 2000000 99) 2000000 (.seq (R [o 65 .move [c 6], o 66 (.len 0) [m 65], o 67 .move [n 0]]) (.block 0 (.loop true rb3))) ⟨[(64, .bool false), (56, .bool false), (45, .bool false), (6, .slice (ex turn (manyOf turn.length many stop most)) .no), (5, .int .i64 (lenOf turn.length many stop)), (17, .bool false), (9, .bool false), (4, .bool false), (2, .ptr 0 0), (0, .agg [.slice turn .no, .int .i64 many, .int .i64 stop]), (1, .int .i64 most)], ML turn many stop⟩ = some (.normal, ⟨env, ML turn many stop⟩) := by
    refine seq_region r8 ?_
    rw [sy_block, sy_loop]
    have hlo' : evLoop true (evCode globs (evFn globs tab noext 2000000 99) 2000000 rb3) 2000000 ⟨[(67, .int .i64 0), (66, .int .i64 ((manyOf turn.length many stop most : Nat) : Int)), (64, .bool false), (56, .bool false), (45, .bool false), (6, .slice (ex turn (manyOf turn.length many stop most)) .no), (5, .int .i64 (lenOf turn.length many stop)), (17, .bool false), (9, .bool false), (4, .bool false), (2, .ptr 0 0), (0, .agg [.slice turn .no, .int .i64 many, .int .i64 stop]), (1, .int .i64 most)], ML turn many stop⟩ = some (.exit 0, ⟨env, ML turn many stop⟩) := hlo
    rw [hlo']; rfl
  have e9 : evCode globs (evFn globs tab noext 2000000 99) 2000000 (.seq (R [o 4 .move [.val (.bool true)]]) (.ret)) ⟨env, ML turn many stop⟩ = some (.ret, ⟨(4, .bool true) :: env.del 4, ML turn many stop⟩) := rfl
  have hall : evCode globs (evFn globs tab noext 2000000 99) 2000000 mc3.body ⟨startEnv 0 [.agg [.slice turn .no, .int .i64 many, .int .i64 stop], .int .i64 most], ⟨0, [], []⟩⟩ = some (.ret, ⟨(4, .bool true) :: env.del 4, ML turn many stop⟩) :=
    seq_of e0 (seq_of e1 (seq_of e3 (seq_region r5 (seq_region (r6 hm hd) (seq_of e7 (seq_of e8 e9))))))
  rw [sy_fn t3, hall]
  rfl
end Go.Ev.T3

