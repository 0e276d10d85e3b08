/- The laws ClassOf, ClassBounds, ClassSteps: at every argument they return true. -/
import Derived.Test.YtpgjcmmbkgkhlaaClsC
set_option linter.unusedVariables false
set_option linter.unusedSimpArgs false
namespace Go.Proofs.Ytpgjcmmbkgkhlaa
open Go Go.Eng
set_option maxRecDepth 100000 in
theorem ClassOf_c (x : Int) (hx : -2147483648 ≤ x ∧ x ≤ 2147483647) : ACall Try.prog 3 [.int .i32 x] (.bool true) none := by
  refine acall_intro none Try.func3 rfl (by kernel_rfl) (by simp [Try.f3]) ?_
  refine ex_run 30 ?_
  simp (maxSteps := 200000) only [Try.f3, push_cast, List.getD_cons_zero, List.getD_cons_succ, List.take_succ_cons, List.take_zero, List.drop_succ_cons, Nat.reduceLT, Nat.reduceLeDiff, Nat.reduceEqDiff, Nat.reduceAdd, Nat.reduceMul, Nat.reduceSub, Int.reduceToNat, Int.reduceLE, Int.reduceLT, Int.reduceEq, Int.reduceAdd, ↓reduceIte, decide_true, decide_false, and_self]
  refine call_intro answers3_c (fun h => by cases h) ?_
  simp (maxSteps := 200000) only [push_cast, List.getD_cons_zero, List.getD_cons_succ, List.take_succ_cons, List.take_zero, List.drop_succ_cons, Nat.reduceLT, Nat.reduceLeDiff, Nat.reduceEqDiff, Nat.reduceAdd, Nat.reduceMul, Nat.reduceSub, Int.reduceToNat, Int.reduceLE, Int.reduceLT, Int.reduceEq, Int.reduceAdd, ↓reduceIte, decide_true, decide_false, and_self]
  refine call_intro (Of_c x hx) (fun h => by cases h) ?_
  simp (maxSteps := 200000) only [push_cast, List.getD_cons_zero, List.getD_cons_succ, List.take_succ_cons, List.take_zero, List.drop_succ_cons, Nat.reduceLT, Nat.reduceLeDiff, Nat.reduceEqDiff, Nat.reduceAdd, Nat.reduceMul, Nat.reduceSub, Int.reduceToNat, Int.reduceLE, Int.reduceLT, Int.reduceEq, Int.reduceAdd, ↓reduceIte, decide_true, decide_false, and_self]
  refine call_intro (Class_c x hx) (fun h => by cases h) ?_
  simp (maxSteps := 200000) only [push_cast, List.getD_cons_zero, List.getD_cons_succ, List.take_succ_cons, List.take_zero, List.drop_succ_cons, Nat.reduceLT, Nat.reduceLeDiff, Nat.reduceEqDiff, Nat.reduceAdd, Nat.reduceMul, Nat.reduceSub, Int.reduceToNat, Int.reduceLE, Int.reduceLT, Int.reduceEq, Int.reduceAdd, ↓reduceIte, decide_true, decide_false, and_self]
  refine call_intro (Mark_c x hx) (fun h => by cases h) ?_
  simp (maxSteps := 200000) only [push_cast, List.getD_cons_zero, List.getD_cons_succ, List.take_succ_cons, List.take_zero, List.drop_succ_cons, Nat.reduceLT, Nat.reduceLeDiff, Nat.reduceEqDiff, Nat.reduceAdd, Nat.reduceMul, Nat.reduceSub, Int.reduceToNat, Int.reduceLE, Int.reduceLT, Int.reduceEq, Int.reduceAdd, ↓reduceIte, decide_true, decide_false, and_self]
  refine call_intro (Class_c x hx) (fun h => by cases h) ?_
  simp (maxSteps := 200000) only [push_cast, List.getD_cons_zero, List.getD_cons_succ, List.take_succ_cons, List.take_zero, List.drop_succ_cons, Nat.reduceLT, Nat.reduceLeDiff, Nat.reduceEqDiff, Nat.reduceAdd, Nat.reduceMul, Nat.reduceSub, Int.reduceToNat, Int.reduceLE, Int.reduceLT, Int.reduceEq, Int.reduceAdd, ↓reduceIte, decide_true, decide_false, and_self]
  exact ⟨_, _, rfl, rfl, .of_eq (by simp [mkS_env, lkF, pack]), rfl⟩
set_option maxRecDepth 100000 in
theorem ClassBounds_c (x : Int) (hx : -2147483648 ≤ x ∧ x ≤ 2147483647) : ACall Try.prog 4 [.int .i32 x] (.bool true) none := by
  obtain ⟨b1, b2, b3⟩ := clsOf_bounds x
  refine acall_intro none Try.func4 rfl (by kernel_rfl) (by simp [Try.f4]) ?_
  refine ex_run 30 ?_
  simp (maxSteps := 200000) only [Try.f4, push_cast, List.getD_cons_zero, List.getD_cons_succ, List.take_succ_cons, List.take_zero, List.drop_succ_cons, Nat.reduceLT, Nat.reduceLeDiff, Nat.reduceEqDiff, Nat.reduceAdd, Nat.reduceMul, Nat.reduceSub, Int.reduceToNat, Int.reduceLE, Int.reduceLT, Int.reduceEq, Int.reduceAdd, ↓reduceIte, decide_true, decide_false, and_self]
  refine call_intro (Of_c x hx) (fun h => by cases h) ?_
  simp (maxSteps := 200000) only [push_cast, List.getD_cons_zero, List.getD_cons_succ, List.take_succ_cons, List.take_zero, List.drop_succ_cons, Nat.reduceLT, Nat.reduceLeDiff, Nat.reduceEqDiff, Nat.reduceAdd, Nat.reduceMul, Nat.reduceSub, Int.reduceToNat, Int.reduceLE, Int.reduceLT, Int.reduceEq, Int.reduceAdd, ↓reduceIte, decide_true, decide_false, and_self]
  refine call_intro answers3_c (fun h => by cases h) ?_
  generalize clsOf x = c at b1 b2 b3
  have b1' : (0 : Int) ≤ c := b1
  simp (maxSteps := 200000) only [b1, b2, push_cast, List.getD_cons_zero, List.getD_cons_succ, List.take_succ_cons, List.take_zero, List.drop_succ_cons, Nat.reduceLT, Nat.reduceLeDiff, Nat.reduceEqDiff, Nat.reduceAdd, Nat.reduceMul, Nat.reduceSub, Int.reduceToNat, Int.reduceLE, Int.reduceLT, Int.reduceEq, Int.reduceAdd, ↓reduceIte, decide_true, decide_false, and_self]
  refine ⟨fun h1 => ⟨fun h2 => ?_, fun h2 => ?_⟩, fun h1 => ?_⟩
  · exact ⟨_, _, rfl, rfl, .refl _, rfl⟩
  · have e : c = 0 := Classical.byContradiction fun h => by have := b3 h; omega
    exact ⟨_, _, rfl, rfl, .of_eq (by simp [e, mkS_env, lkF, pack]), rfl⟩
  · have e : c = 0 := Classical.byContradiction fun h => by have := b3 h; omega
    exact ⟨_, _, rfl, rfl, .of_eq (by simp [e, mkS_env, lkF, pack]), rfl⟩
set_option maxRecDepth 100000 in
theorem ClassSteps_c (n : Int) (hn : 0 ≤ n ∧ n ≤ 255) : ACall Try.prog 5 [.int .u8 n] (.bool true) none := by
  have hk : 0 ≤ n.tmod 8 ∧ n.tmod 8 < 8 := ⟨Int.tmod_nonneg _ (by omega), Int.tmod_lt_of_pos _ (by omega)⟩
  refine acall_intro none Try.func5 rfl (by kernel_rfl) (by simp [Try.f5]) ?_
  refine ex_run 30 ?_
  simp (maxSteps := 200000) only [Try.f5, push_cast, List.getD_cons_zero, List.getD_cons_succ, List.take_succ_cons, List.take_zero, List.drop_succ_cons, Nat.reduceLT, Nat.reduceLeDiff, Nat.reduceEqDiff, Nat.reduceAdd, Nat.reduceMul, Nat.reduceSub, Int.reduceToNat, Int.reduceLE, Int.reduceLT, Int.reduceEq, Int.reduceAdd, ↓reduceIte, decide_true, decide_false, and_self]
  refine ⟨by omega, ?_⟩
  refine call_intro answers3_c (fun h => by cases h) ?_
  generalize n.tmod 8 = k at hk
  have hk8 : k = 0 ∨ k = 1 ∨ k = 2 ∨ k = 3 ∨ k = 4 ∨ k = 5 ∨ k = 6 ∨ k = 7 := by omega
  have w1 : IntKind.i32.wrap k = k := IntWalk.i32_in _ (by omega)
  have w2 : IntKind.i32.wrap (1456 + k) = 1456 + k := IntWalk.i32_in _ (by omega)
  have w3 : IntKind.i32.wrap (1611 + k) = 1611 + k := IntWalk.i32_in _ (by omega)
  have w4 : IntKind.i32.wrap (768 + k) = 768 + k := IntWalk.i32_in _ (by omega)
  have k2 : 0 ≤ k.tmod 2 ∧ k.tmod 2 < 2 := ⟨Int.tmod_nonneg _ (by omega), Int.tmod_lt_of_pos _ (by omega)⟩
  have w5 : IntKind.i32.wrap (12441 + k.tmod 2) = 12441 + k.tmod 2 := IntWalk.i32_in _ (by omega)
  have w6 : IntKind.i64.wrap k = k := wrap_i64 (by omega)
  have w7 : IntKind.i64.wrap (10 + k) = 10 + k := wrap_i64 (by omega)
  have w8 : IntKind.i64.wrap (27 + k) = 27 + k := wrap_i64 (by omega)
  have s1 : clsOf (1456 + k) = 10 + k := by rcases hk8 with rfl | rfl | rfl | rfl | rfl | rfl | rfl | rfl <;> decide +kernel
  have s2 : clsOf (1611 + k) = 27 + k := by rcases hk8 with rfl | rfl | rfl | rfl | rfl | rfl | rfl | rfl <;> decide +kernel
  have s3 : clsOf 1464 = 18 := by decide +kernel
  have s4 : clsOf (768 + k) = 230 := by rcases hk8 with rfl | rfl | rfl | rfl | rfl | rfl | rfl | rfl <;> decide +kernel
  have s5 : clsOf (12441 + k.tmod 2) = 8 := by rcases hk8 with rfl | rfl | rfl | rfl | rfl | rfl | rfl | rfl <;> decide +kernel
  simp (maxSteps := 200000) only [w1, w2, w6, w7, push_cast, List.getD_cons_zero, List.getD_cons_succ, List.take_succ_cons, List.take_zero, List.drop_succ_cons, Nat.reduceLT, Nat.reduceLeDiff, Nat.reduceEqDiff, Nat.reduceAdd, Nat.reduceMul, Nat.reduceSub, Int.reduceToNat, Int.reduceLE, Int.reduceLT, Int.reduceEq, Int.reduceAdd, ↓reduceIte, decide_true, decide_false, and_self]
  refine call_intro (Of_c _ (by omega)) (fun h => by cases h) ?_
  simp (maxSteps := 200000) only [s1, w1, w2, w3, w6, w7, w8, push_cast, List.getD_cons_zero, List.getD_cons_succ, List.take_succ_cons, List.take_zero, List.drop_succ_cons, Nat.reduceLT, Nat.reduceLeDiff, Nat.reduceEqDiff, Nat.reduceAdd, Nat.reduceMul, Nat.reduceSub, Int.reduceToNat, Int.reduceLE, Int.reduceLT, Int.reduceEq, Int.reduceAdd, ↓reduceIte, decide_true, decide_false, and_self]
  refine call_intro (Of_c _ (by omega)) (fun h => by cases h) ?_
  simp (maxSteps := 200000) only [s2, w1, w2, w3, w6, w7, w8, push_cast, List.getD_cons_zero, List.getD_cons_succ, List.take_succ_cons, List.take_zero, List.drop_succ_cons, Nat.reduceLT, Nat.reduceLeDiff, Nat.reduceEqDiff, Nat.reduceAdd, Nat.reduceMul, Nat.reduceSub, Int.reduceToNat, Int.reduceLE, Int.reduceLT, Int.reduceEq, Int.reduceAdd, ↓reduceIte, decide_true, decide_false, and_self]
  refine call_intro (Of_c _ (by omega)) (fun h => by cases h) ?_
  rw [s3]
  simp (maxSteps := 200000) only [w1, w2, w3, w4, w6, w7, w8, push_cast, List.getD_cons_zero, List.getD_cons_succ, List.take_succ_cons, List.take_zero, List.drop_succ_cons, Nat.reduceLT, Nat.reduceLeDiff, Nat.reduceEqDiff, Nat.reduceAdd, Nat.reduceMul, Nat.reduceSub, Int.reduceToNat, Int.reduceLE, Int.reduceLT, Int.reduceEq, Int.reduceAdd, ↓reduceIte, decide_true, decide_false, and_self]
  refine call_intro (Of_c _ (by omega)) (fun h => by cases h) ?_
  simp (maxSteps := 200000) only [s4, w1, w2, w3, w4, w5, w6, w7, w8, push_cast, List.getD_cons_zero, List.getD_cons_succ, List.take_succ_cons, List.take_zero, List.drop_succ_cons, Nat.reduceLT, Nat.reduceLeDiff, Nat.reduceEqDiff, Nat.reduceAdd, Nat.reduceMul, Nat.reduceSub, Int.reduceToNat, Int.reduceLE, Int.reduceLT, Int.reduceEq, Int.reduceAdd, ↓reduceIte, decide_true, decide_false, and_self]
  refine ⟨by omega, ?_⟩
  refine call_intro (Of_c _ (by omega)) (fun h => by cases h) ?_
  simp (maxSteps := 200000) only [s5, w1, w2, w3, w4, w5, w6, w7, w8, push_cast, List.getD_cons_zero, List.getD_cons_succ, List.take_succ_cons, List.take_zero, List.drop_succ_cons, Nat.reduceLT, Nat.reduceLeDiff, Nat.reduceEqDiff, Nat.reduceAdd, Nat.reduceMul, Nat.reduceSub, Int.reduceToNat, Int.reduceLE, Int.reduceLT, Int.reduceEq, Int.reduceAdd, ↓reduceIte, decide_true, decide_false, and_self]
  exact ⟨_, _, rfl, rfl, .refl _, rfl⟩
end Go.Proofs.Ytpgjcmmbkgkhlaa
