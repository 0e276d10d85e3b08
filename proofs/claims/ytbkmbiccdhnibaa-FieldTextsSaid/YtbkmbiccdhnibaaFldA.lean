/- field: bytes, the first that is not free, copies, faults. -/
import Derived.Test.YtbkmbiccdhnibaaFldP
set_option linter.unusedVariables false
set_option linter.unusedSimpArgs false
namespace Go.Proofs.Ytbkmbiccdhnibaa
open Go Go.Eng
set_option maxRecDepth 100000 in
theorem Free_c (c : Int) : ACall Try.prog 65 [.int .u8 c] (.bool (freeB c)) none := by
  refine acall_intro none Try.func65 rfl (by kernel_rfl) (by simp [Try.f65]) ?_
  refine ex_run 30 ?_
  by_cases h1 : c = 29
  · simp (maxSteps := 200000) only [Try.f65, h1, push_cast, List.getD_cons_zero, List.getD_cons_succ, List.take_succ_cons, List.take_zero, List.drop_succ_cons, Nat.reduceLT, Nat.reduceLeDiff, Nat.reduceEqDiff, Nat.reduceAdd, Nat.reduceMul, Nat.reduceSub, Int.reduceToNat, Int.reduceLE, Int.reduceLT, Int.reduceEq, Int.reduceAdd, ↓reduceIte, decide_true, decide_false, and_self]
    exact ⟨_, _, rfl, rfl, .of_eq (by simp [freeB, pack, mkS_env, lkF]), rfl⟩
  · by_cases h2 : c = 30
    · simp (maxSteps := 200000) only [Try.f65, h1, h2, push_cast, List.getD_cons_zero, List.getD_cons_succ, List.take_succ_cons, List.take_zero, List.drop_succ_cons, Nat.reduceLT, Nat.reduceLeDiff, Nat.reduceEqDiff, Nat.reduceAdd, Nat.reduceMul, Nat.reduceSub, Int.reduceToNat, Int.reduceLE, Int.reduceLT, Int.reduceEq, Int.reduceAdd, ↓reduceIte, decide_true, decide_false, and_self]
      exact ⟨_, _, rfl, rfl, .of_eq (by simp [freeB, pack, mkS_env, lkF]), rfl⟩
    · simp (maxSteps := 200000) only [Try.f65, h1, h2, push_cast, List.getD_cons_zero, List.getD_cons_succ, List.take_succ_cons, List.take_zero, List.drop_succ_cons, Nat.reduceLT, Nat.reduceLeDiff, Nat.reduceEqDiff, Nat.reduceAdd, Nat.reduceMul, Nat.reduceSub, Int.reduceToNat, Int.reduceLE, Int.reduceLT, Int.reduceEq, Int.reduceAdd, ↓reduceIte, decide_true, decide_false, and_self]
      exact ⟨_, _, rfl, rfl, .of_eq (by simp [freeB, pack, mkS_env, lkF, h1, h2]), rfl⟩
set_option maxRecDepth 100000 in
theorem bad1_c (c : Int) : ACall Try.prog 75 [.int .u8 c] (.bool (!freeB c)) none := by
  refine acall_intro none Try.func75 rfl (by kernel_rfl) (by simp [Try.f75]) ?_
  refine ex_run 30 ?_
  simp (maxSteps := 200000) only [Try.f75, push_cast, List.getD_cons_zero, List.getD_cons_succ, List.take_succ_cons, List.take_zero, List.drop_succ_cons, Nat.reduceLT, Nat.reduceLeDiff, Nat.reduceEqDiff, Nat.reduceAdd, Nat.reduceMul, Nat.reduceSub, Int.reduceToNat, Int.reduceLE, Int.reduceLT, Int.reduceEq, Int.reduceAdd, ↓reduceIte, decide_true, decide_false, and_self]
  refine call_intro (Free_c c) (fun h => by cases h) ?_
  simp (maxSteps := 200000) only [push_cast, List.getD_cons_zero, List.getD_cons_succ, List.take_succ_cons, List.take_zero, List.drop_succ_cons, Nat.reduceLT, Nat.reduceLeDiff, Nat.reduceEqDiff, Nat.reduceAdd, Nat.reduceMul, Nat.reduceSub, Int.reduceToNat, Int.reduceLE, Int.reduceLT, Int.reduceEq, Int.reduceAdd, ↓reduceIte, decide_true, decide_false, and_self]
  exact ⟨_, _, rfl, rfl, .refl _, rfl⟩
set_option maxRecDepth 100000 in
theorem IndexFunc_c (l : List Int) (hl : l.length ≤ 9223372036854775807) : ACall Try.prog 74 [.sl l.length (u8s l), .fn 75 []] (.int .i64 (badFrom l 0)) none := by
  refine acall_intro none Try.func74 rfl (by kernel_rfl) (by simp [Try.f74]) ?_
  refine ex_run 30 ?_
  simp (maxSteps := 200000) only [Try.f74, push_cast, List.getD_cons_zero, List.getD_cons_succ, List.take_succ_cons, List.take_zero, List.drop_succ_cons, Nat.reduceLT, Nat.reduceLeDiff, Nat.reduceEqDiff, Nat.reduceAdd, Nat.reduceMul, Nat.reduceSub, Int.reduceToNat, Int.reduceLE, Int.reduceLT, Int.reduceEq, Int.reduceAdd, ↓reduceIte, decide_true, decide_false, and_self]
  refine run_keep (l' := [(0, .sl l.length (u8s l)), (1, .fn 75 []), (7, .int .i64 l.length), (8, .int .i64 0)]) (t' := []) (nx' := _) ⟨.refl _, .refl _, .refl _, .refl _, trivial⟩ trivial (Nat.le_refl _) ?_
  refine run_loop (fun n s => ∃ (i nx : Nat), i ≤ l.length ∧ n = l.length - i ∧ badFrom l 0 = badFrom (l.drop i) i ∧ s = mkS [(0, .sl l.length (u8s l)), (1, .fn 75 []), (7, .int .i64 l.length), (8, .int .i64 i)] [] nx) _ ⟨0, _, Nat.zero_le _, rfl, rfl, rfl⟩ ?_
  rintro n s ⟨i, nx, hi, rfl, hb, rfl⟩
  by_cases h : i < l.length
  · have hg := u8s_getD l i h
    have hpos : 0 < l.length := by omega
    have hw : IntKind.i64.wrap ((i : Int) + 1) = ((i + 1 : Nat) : Int) := by rw [wrap_i64 (by omega)]; omega
    rw [badFrom_drop h] at hb
    generalize l.getD i 0 = c at *
    refine ex_run 30 ?_
    simp (maxSteps := 200000) only [h, hg, hpos, push_cast, List.getD_cons_zero, List.getD_cons_succ, List.take_succ_cons, List.take_zero, List.drop_succ_cons, Nat.reduceLT, Nat.reduceLeDiff, Nat.reduceEqDiff, Nat.reduceAdd, Nat.reduceMul, Nat.reduceSub, Int.reduceToNat, Int.reduceLE, Int.reduceLT, Int.reduceEq, Int.reduceAdd, ↓reduceIte, decide_true, decide_false, and_self]
    refine call_intro (bad1_c c) (fun h => by cases h) ?_
    generalize freeB c = q at *
    cases q
    · simp (maxSteps := 200000) only [push_cast, List.getD_cons_zero, List.getD_cons_succ, List.take_succ_cons, List.take_zero, List.drop_succ_cons, Nat.reduceLT, Nat.reduceLeDiff, Nat.reduceEqDiff, Nat.reduceAdd, Nat.reduceMul, Nat.reduceSub, Int.reduceToNat, Int.reduceLE, Int.reduceLT, Int.reduceEq, Int.reduceAdd, ↓reduceIte, decide_true, decide_false, and_self]
      exact ⟨_, _, rfl, rfl, .of_eq (by rw [hb]; rfl), rfl⟩
    · simp (maxSteps := 200000) only [hw, push_cast, List.getD_cons_zero, List.getD_cons_succ, List.take_succ_cons, List.take_zero, List.drop_succ_cons, Nat.reduceLT, Nat.reduceLeDiff, Nat.reduceEqDiff, Nat.reduceAdd, Nat.reduceMul, Nat.reduceSub, Int.reduceToNat, Int.reduceLE, Int.reduceLT, Int.reduceEq, Int.reduceAdd, ↓reduceIte, decide_true, decide_false, and_self]
      refine run_back_le (le_mk (l' := [(0, .sl l.length (u8s l)), (1, .fn 75 []), (7, .int .i64 l.length), (8, .int .i64 ((i + 1 : Nat) : Int))]) (t' := []) (nx' := _) ⟨.refl _, .refl _, .refl _, .of_eq (congrArg (AV.int .i64) (by omega)), trivial⟩ trivial (Nat.le_refl _)) ?_
      exact ⟨l.length - (i + 1), by omega, i + 1, _, by omega, rfl, by rw [hb]; rfl, rfl⟩
  · refine ex_run 30 ?_
    simp (maxSteps := 200000) only [h, push_cast, List.getD_cons_zero, List.getD_cons_succ, List.take_succ_cons, List.take_zero, List.drop_succ_cons, Nat.reduceLT, Nat.reduceLeDiff, Nat.reduceEqDiff, Nat.reduceAdd, Nat.reduceMul, Nat.reduceSub, Int.reduceToNat, Int.reduceLE, Int.reduceLT, Int.reduceEq, Int.reduceAdd, ↓reduceIte, decide_true, decide_false, and_self]
    have e : badFrom l 0 = -1 := by rw [hb, List.drop_of_length_le (by omega)]; rfl
    exact ⟨_, _, rfl, rfl, .of_eq (by rw [e]; rfl), rfl⟩
set_option maxRecDepth 100000 in
theorem bad_c (l : List Int) (hl : l.length ≤ 9223372036854775807) : ACall Try.prog 63 [.sl l.length (u8s l)] (.int .i64 (badFrom l 0)) none := by
  refine acall_intro none Try.func63 rfl (by kernel_rfl) (by simp [Try.f63]) ?_
  refine ex_run 30 ?_
  simp (maxSteps := 200000) only [Try.f63, push_cast, List.getD_cons_zero, List.getD_cons_succ, List.take_succ_cons, List.take_zero, List.drop_succ_cons, Nat.reduceLT, Nat.reduceLeDiff, Nat.reduceEqDiff, Nat.reduceAdd, Nat.reduceMul, Nat.reduceSub, Int.reduceToNat, Int.reduceLE, Int.reduceLT, Int.reduceEq, Int.reduceAdd, ↓reduceIte, decide_true, decide_false, and_self]
  refine call_intro (IndexFunc_c l hl) (fun h => by cases h) ?_
  simp (maxSteps := 200000) only [push_cast, List.getD_cons_zero, List.getD_cons_succ, List.take_succ_cons, List.take_zero, List.drop_succ_cons, Nat.reduceLT, Nat.reduceLeDiff, Nat.reduceEqDiff, Nat.reduceAdd, Nat.reduceMul, Nat.reduceSub, Int.reduceToNat, Int.reduceLE, Int.reduceLT, Int.reduceEq, Int.reduceAdd, ↓reduceIte, decide_true, decide_false, and_self]
  exact ⟨_, _, rfl, rfl, .refl _, rfl⟩
set_option maxRecDepth 100000 in
theorem Clone_c (l : List Int) (hl : l.length ≤ 140737488355328) : ACall Try.prog 51 [.sl l.length (u8s l)] (.sl l.length (u8s l)) none := by
  refine acall_intro none Try.func51 rfl (by kernel_rfl) (by simp [Try.f51]) ?_
  by_cases h0 : l = []
  · subst h0
    refine run_split 0 rfl ?_ ?_
    · refine ex_run 30 ?_
      simp (maxSteps := 200000) only [Try.f51, isNilS, eqOf, push_cast, List.getD_cons_zero, List.getD_cons_succ, List.take_succ_cons, List.take_zero, List.drop_succ_cons, Nat.reduceLT, Nat.reduceLeDiff, Nat.reduceEqDiff, Nat.reduceAdd, Nat.reduceMul, Nat.reduceSub, Int.reduceToNat, Int.reduceLE, Int.reduceLT, Int.reduceEq, Int.reduceAdd, ↓reduceIte, decide_true, decide_false, and_self]
      exact ⟨_, _, rfl, rfl, .nil, rfl⟩
    · refine ex_run 5 ?_
      simp (maxSteps := 200000) only [Try.f51, isNilS, eqOf, push_cast, List.getD_cons_zero, List.getD_cons_succ, List.take_succ_cons, List.take_zero, List.drop_succ_cons, Nat.reduceLT, Nat.reduceLeDiff, Nat.reduceEqDiff, Nat.reduceAdd, Nat.reduceMul, Nat.reduceSub, Int.reduceToNat, Int.reduceLE, Int.reduceLT, Int.reduceEq, Int.reduceAdd, ↓reduceIte, decide_true, decide_false, and_self]
      refine run_keep (l' := [(0, .sl 0 []), (4, .bool false), (2, .nilS)]) (t' := []) (nx' := _) ⟨.em _, .refl _, .refl _, trivial⟩ trivial (Nat.le_refl _) ?_
      refine ex_run 30 ?_
      simp (maxSteps := 200000) only [push_cast, List.getD_cons_zero, List.getD_cons_succ, List.take_succ_cons, List.take_zero, List.drop_succ_cons, Nat.reduceLT, Nat.reduceLeDiff, Nat.reduceEqDiff, Nat.reduceAdd, Nat.reduceMul, Nat.reduceSub, Int.reduceToNat, Int.reduceLE, Int.reduceLT, Int.reduceEq, Int.reduceAdd, ↓reduceIte, decide_true, decide_false, and_self]
      exact ⟨_, [.sl 0 []], rfl, by simp [outA, outV, outC, mkS_env, mkS_tk, lkF, lkG, closedL], .refl _, rfl⟩
  · have hn : ¬ l.length = 0 := fun e => h0 (List.eq_nil_of_length_eq_zero e)
    refine ex_run 30 ?_
    simp (maxSteps := 200000) only [Try.f51, isNilS, eqOf, hn, push_cast, List.getD_cons_zero, List.getD_cons_succ, List.take_succ_cons, List.take_zero, List.drop_succ_cons, Nat.reduceLT, Nat.reduceLeDiff, Nat.reduceEqDiff, Nat.reduceAdd, Nat.reduceMul, Nat.reduceSub, Int.reduceToNat, Int.reduceLE, Int.reduceLT, Int.reduceEq, Int.reduceAdd, ↓reduceIte, decide_true, decide_false, and_self]
    refine ⟨⟨by omega, by omega⟩, ?_⟩
    exact ⟨_, [.sl l.length (u8s l)], rfl, by simp [outA, outV, outC, mkS_env, mkS_tk, lkF, lkG, u8s_closed, u8s_take], .refl _, rfl⟩
end Go.Proofs.Ytbkmbiccdhnibaa
