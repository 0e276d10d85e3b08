/- field: codes, indicators, faults, control fields. -/
import Derived.Test.YtbkmbiccdhnibaaFldA
set_option linter.unusedVariables false
set_option linter.unusedSimpArgs false
namespace Go.Proofs.Ytbkmbiccdhnibaa
open Go Go.Eng
set_option maxRecDepth 100000 in
theorem Code_c (c : Int) : ACall Try.prog 64 [.int .u8 c] (.bool (codeB c)) none := by
  refine acall_intro none Try.func64 rfl (by kernel_rfl) (by simp [Try.f64]) ?_
  refine ex_run 30 ?_
  by_cases h1 : 32 < c
  · simp (maxSteps := 200000) only [Try.f64, h1, push_cast, List.getD_cons_zero, List.getD_cons_succ, List.take_succ_cons, List.take_zero, List.drop_succ_cons, Nat.reduceLT, Nat.reduceLeDiff, Nat.reduceEqDiff, Nat.reduceAdd, Nat.reduceMul, Nat.reduceSub, Int.reduceToNat, Int.reduceLE, Int.reduceLT, Int.reduceEq, Int.reduceAdd, ↓reduceIte, decide_true, decide_false, and_self]
    exact ⟨_, _, rfl, rfl, .of_eq (by simp [codeB, pack, mkS_env, lkF, h1]), rfl⟩
  · simp (maxSteps := 200000) only [Try.f64, h1, push_cast, List.getD_cons_zero, List.getD_cons_succ, List.take_succ_cons, List.take_zero, List.drop_succ_cons, Nat.reduceLT, Nat.reduceLeDiff, Nat.reduceEqDiff, Nat.reduceAdd, Nat.reduceMul, Nat.reduceSub, Int.reduceToNat, Int.reduceLE, Int.reduceLT, Int.reduceEq, Int.reduceAdd, ↓reduceIte, decide_true, decide_false, and_self]
    exact ⟨_, _, rfl, rfl, .of_eq (by simp [codeB, pack, mkS_env, lkF, h1]), rfl⟩
set_option maxRecDepth 100000 in
theorem Ind_c (c : Int) : ACall Try.prog 48 [.int .u8 c] (.bool (indB c)) none := by
  refine acall_intro none Try.func48 rfl (by kernel_rfl) (by simp [Try.f48]) ?_
  refine ex_run 30 ?_
  by_cases h1 : 32 ≤ c
  · simp (maxSteps := 200000) only [Try.f48, h1, push_cast, List.getD_cons_zero, List.getD_cons_succ, List.take_succ_cons, List.take_zero, List.drop_succ_cons, Nat.reduceLT, Nat.reduceLeDiff, Nat.reduceEqDiff, Nat.reduceAdd, Nat.reduceMul, Nat.reduceSub, Int.reduceToNat, Int.reduceLE, Int.reduceLT, Int.reduceEq, Int.reduceAdd, ↓reduceIte, decide_true, decide_false, and_self]
    exact ⟨_, _, rfl, rfl, .of_eq (by simp [indB, pack, mkS_env, lkF, h1]), rfl⟩
  · simp (maxSteps := 200000) only [Try.f48, h1, push_cast, List.getD_cons_zero, List.getD_cons_succ, List.take_succ_cons, List.take_zero, List.drop_succ_cons, Nat.reduceLT, Nat.reduceLeDiff, Nat.reduceEqDiff, Nat.reduceAdd, Nat.reduceMul, Nat.reduceSub, Int.reduceToNat, Int.reduceLE, Int.reduceLT, Int.reduceEq, Int.reduceAdd, ↓reduceIte, decide_true, decide_false, and_self]
    exact ⟨_, _, rfl, rfl, .of_eq (by simp [indB, pack, mkS_env, lkF, h1]), rfl⟩
set_option maxRecDepth 100000 in
theorem fault_c (a : Int) : ACall Try.prog 46 [.int .i64 a] (.agg [.int .i64 12, .int .i64 a]) none := by
  refine acall_intro none Try.func46 rfl (by kernel_rfl) (by simp [Try.f46]) ?_
  refine ex_run 30 ?_
  simp (maxSteps := 200000) only [Try.f46, push_cast, List.getD_cons_zero, List.getD_cons_succ, List.take_succ_cons, List.take_zero, List.drop_succ_cons, Nat.reduceLT, Nat.reduceLeDiff, Nat.reduceEqDiff, Nat.reduceAdd, Nat.reduceMul, Nat.reduceSub, Int.reduceToNat, Int.reduceLE, Int.reduceLT, Int.reduceEq, Int.reduceAdd, ↓reduceIte, decide_true, decide_false, and_self]
  exact ⟨_, _, rfl, rfl, .refl _, rfl⟩
def cres (tag b : List Int) : Sum Int FV := if badFrom b 0 < 0 then .inr ⟨tag, b, 0, 0, []⟩ else .inl (badFrom b 0)
set_option maxRecDepth 100000 in
theorem control_c (tag b : List Int) (hl : b.length ≤ 140737488355328) : ACall Try.prog 47 [.str tag, .sl b.length (u8s b)] (fres (cres tag b)) none := by
  refine acall_intro none Try.func47 rfl (by kernel_rfl) (by simp [Try.f47]) ?_
  refine ex_run 30 ?_
  simp (maxSteps := 200000) only [Try.f47, push_cast, List.getD_cons_zero, List.getD_cons_succ, List.take_succ_cons, List.take_zero, List.drop_succ_cons, Nat.reduceLT, Nat.reduceLeDiff, Nat.reduceEqDiff, Nat.reduceAdd, Nat.reduceMul, Nat.reduceSub, Int.reduceToNat, Int.reduceLE, Int.reduceLT, Int.reduceEq, Int.reduceAdd, ↓reduceIte, decide_true, decide_false, and_self]
  refine call_intro (bad_c b (by omega)) (fun h => by cases h) ?_
  unfold cres
  generalize badFrom b 0 = f
  by_cases h : f < 0
  · have h' : ¬ 0 ≤ f := by omega
    simp (maxSteps := 200000) only [h', push_cast, List.getD_cons_zero, List.getD_cons_succ, List.take_succ_cons, List.take_zero, List.drop_succ_cons, Nat.reduceLT, Nat.reduceLeDiff, Nat.reduceEqDiff, Nat.reduceAdd, Nat.reduceMul, Nat.reduceSub, Int.reduceToNat, Int.reduceLE, Int.reduceLT, Int.reduceEq, Int.reduceAdd, ↓reduceIte, decide_true, decide_false, and_self]
    refine call_intro (Clone_c b hl) (fun h => by cases h) ?_
    simp (maxSteps := 200000) only [push_cast, List.getD_cons_zero, List.getD_cons_succ, List.take_succ_cons, List.take_zero, List.drop_succ_cons, Nat.reduceLT, Nat.reduceLeDiff, Nat.reduceEqDiff, Nat.reduceAdd, Nat.reduceMul, Nat.reduceSub, Int.reduceToNat, Int.reduceLE, Int.reduceLT, Int.reduceEq, Int.reduceAdd, ↓reduceIte, decide_true, decide_false, and_self]
    rw [if_pos h]
    exact ⟨[.agg [.str tag, .sl b.length (u8s b), .int .u8 0, .int .u8 0, .nilS], .agg [.int .i64 0, .int .i64 0]], [.agg [.str tag, .sl b.length (u8s b), .int .u8 0, .int .u8 0, .nilS], .agg [.int .i64 0, .int .i64 0]],
      by kernel_rfl, by simp [outA, outV, outL, outC, AV.closed, closedL, u8s_closed], sub_tup (ds := [.agg (fCells ⟨tag, b, 0, 0, []⟩), .agg [.int .i64 0, .int .i64 0]]) ⟨sub_agg ⟨.refl _, .refl _, .refl _, .refl _, .nil, trivial⟩, .refl _, trivial⟩, rfl⟩
  · have h' : 0 ≤ f := by omega
    simp (maxSteps := 200000) only [h', push_cast, List.getD_cons_zero, List.getD_cons_succ, List.take_succ_cons, List.take_zero, List.drop_succ_cons, Nat.reduceLT, Nat.reduceLeDiff, Nat.reduceEqDiff, Nat.reduceAdd, Nat.reduceMul, Nat.reduceSub, Int.reduceToNat, Int.reduceLE, Int.reduceLT, Int.reduceEq, Int.reduceAdd, ↓reduceIte, decide_true, decide_false, and_self]
    refine call_intro (fault_c f) (fun h => by cases h) ?_
    simp (maxSteps := 200000) only [push_cast, List.getD_cons_zero, List.getD_cons_succ, List.take_succ_cons, List.take_zero, List.drop_succ_cons, Nat.reduceLT, Nat.reduceLeDiff, Nat.reduceEqDiff, Nat.reduceAdd, Nat.reduceMul, Nat.reduceSub, Int.reduceToNat, Int.reduceLE, Int.reduceLT, Int.reduceEq, Int.reduceAdd, ↓reduceIte, decide_true, decide_false, and_self]
    rw [if_neg h]
    exact ⟨[.agg [.str [], .nilS, .int .u8 0, .int .u8 0, .nilS], .agg [.int .i64 12, .int .i64 f]], [.agg [.str [], .nilS, .int .u8 0, .int .u8 0, .nilS], .agg [.int .i64 12, .int .i64 f]],
      by kernel_rfl, by simp [outA, outV, outL, outC, AV.closed], sub_tup (ds := [.agg (fCells zeroF), .agg [.int .i64 12, .int .i64 f]]) ⟨sub_agg ⟨.refl _, .nil, .refl _, .refl _, .nil, trivial⟩, .refl _, trivial⟩, rfl⟩
end Go.Proofs.Ytbkmbiccdhnibaa
