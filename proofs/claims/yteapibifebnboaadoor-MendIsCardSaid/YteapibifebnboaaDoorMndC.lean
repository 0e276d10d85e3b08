/- ref19.Lead, ref19.Sound -/
import Derived.Test.YteapibifebnboaaDoorMndB
set_option linter.unusedVariables false
set_option linter.unusedSimpArgs false
namespace Go.Proofs.YteapibifebnboaaDoor
open Go Go.Eng
set_option maxRecDepth 100000 in
set_option maxHeartbeats 4000000 in
theorem rSound_c (l : List Int) (hl : l.length ≤ 9223372036854775807) : ACall Tryd.prog 16 [.str l] (.bool (soundL l)) none := by
  refine acall_intro none Tryd.func16 rfl (by kernel_rfl) (by simp [Tryd.f16]) ?_
  by_cases h24 : l.length = 24
  · have h24' : (l.length : Int) = 24 := by omega
    refine ex_run 60 ?_
    simp (maxSteps := 200000) only [Tryd.f16, h24', push_cast, List.getD_cons_zero, List.getD_cons_succ, List.take_succ_cons, List.take_zero, List.drop_succ_cons, Nat.reduceLT, Nat.reduceLeDiff, Nat.reduceEqDiff, Nat.reduceAdd, Nat.reduceMul, Nat.reduceSub, Int.reduceToNat, Int.reduceLE, Int.reduceLT, Int.reduceEq, Int.reduceAdd, ↓reduceIte, decide_true, decide_false, and_self]
    refine run_keep (l' := [(0, .str l), (3, .int .i64 0)]) (t' := []) (nx' := _) ⟨.refl _, .refl _, trivial⟩ trivial (Nat.le_refl _) ?_
    refine run_loop (fun n s => ∃ (i nx : Nat), i ≤ 24 ∧ n = 24 - i ∧ sndFrom l 0 = sndFrom (l.drop i) i ∧ s = mkS [(0, .str l), (3, .int .i64 i)] [] nx) _ ⟨0, _, Nat.zero_le _, rfl, rfl, rfl⟩ ?_
    rintro n s ⟨i, nx, hi, rfl, hs, rfl⟩
    by_cases h : i < 24
    · have h' : (i : Int) < 24 := by omega
      have hil : (i : Int) < (l.length : Int) := by omega
      have hw : IntKind.i64.wrap ((i : Int) + 1) = ((i + 1 : Nat) : Int) := by rw [wrap_i64 (by omega)]; omega
      have hsd := sndFrom_drop (l := l) (i := i) (by omega)
      refine ex_run 60 ?_
      simp (maxSteps := 200000) only [h', hil, h24', push_cast, List.getD_cons_zero, List.getD_cons_succ, List.take_succ_cons, List.take_zero, List.drop_succ_cons, Nat.reduceLT, Nat.reduceLeDiff, Nat.reduceEqDiff, Nat.reduceAdd, Nat.reduceMul, Nat.reduceSub, Int.reduceToNat, Int.reduceLE, Int.reduceLT, Int.reduceEq, Int.reduceAdd, ↓reduceIte, decide_true, decide_false, and_self]
      refine call_intro (rat_c i (l.getD i 0) true) (fun h => by cases h) ?_
      cases hq : ledB i (l.getD i 0) true with
      | true =>
        simp (maxSteps := 200000) only [hw, push_cast, List.getD_cons_zero, List.getD_cons_succ, List.take_succ_cons, List.take_zero, List.drop_succ_cons, Nat.reduceLT, Nat.reduceLeDiff, Nat.reduceEqDiff, Nat.reduceAdd, Nat.reduceMul, Nat.reduceSub, Int.reduceToNat, Int.reduceLE, Int.reduceLT, Int.reduceEq, Int.reduceAdd, ↓reduceIte, decide_true, decide_false, and_self]
        refine run_back_le (le_mk (l' := [(0, .str l), (3, .int .i64 ((i + 1 : Nat) : Int))]) (t' := []) (nx' := _) ⟨.refl _, .of_eq (congrArg (AV.int .i64) (by omega)), trivial⟩ trivial (Nat.le_refl _)) ?_
        exact ⟨24 - (i + 1), by omega, i + 1, _, by omega, rfl, by rw [hs, hsd, hq]; rfl, rfl⟩
      | false =>
        simp (maxSteps := 200000) only [push_cast, List.getD_cons_zero, List.getD_cons_succ, List.take_succ_cons, List.take_zero, List.drop_succ_cons, Nat.reduceLT, Nat.reduceLeDiff, Nat.reduceEqDiff, Nat.reduceAdd, Nat.reduceMul, Nat.reduceSub, Int.reduceToNat, Int.reduceLE, Int.reduceLT, Int.reduceEq, Int.reduceAdd, ↓reduceIte, decide_true, decide_false, and_self]
        have e : soundL l = false := by unfold soundL; rw [hs, hsd, hq]; simp
        exact ⟨_, _, rfl, rfl, .of_eq (by rw [e]; rfl), rfl⟩
    · have hie : i = 24 := by omega
      subst hie
      have e : soundL l = true := by unfold soundL; rw [hs, List.drop_of_length_le (by omega), decide_eq_true h24]; rfl
      refine ex_run 60 ?_
      simp (maxSteps := 200000) only [push_cast, List.getD_cons_zero, List.getD_cons_succ, List.take_succ_cons, List.take_zero, List.drop_succ_cons, Nat.reduceLT, Nat.reduceLeDiff, Nat.reduceEqDiff, Nat.reduceAdd, Nat.reduceMul, Nat.reduceSub, Int.reduceToNat, Int.reduceLE, Int.reduceLT, Int.reduceEq, Int.reduceAdd, ↓reduceIte, decide_true, decide_false, and_self]
      exact ⟨_, _, rfl, rfl, .of_eq (by rw [e]; rfl), rfl⟩
  · have h24' : ¬ (l.length : Int) = 24 := by omega
    have e : soundL l = false := by unfold soundL; rw [decide_eq_false h24]; rfl
    refine ex_run 60 ?_
    simp (maxSteps := 200000) only [Tryd.f16, h24', push_cast, List.getD_cons_zero, List.getD_cons_succ, List.take_succ_cons, List.take_zero, List.drop_succ_cons, Nat.reduceLT, Nat.reduceLeDiff, Nat.reduceEqDiff, Nat.reduceAdd, Nat.reduceMul, Nat.reduceSub, Int.reduceToNat, Int.reduceLE, Int.reduceLT, Int.reduceEq, Int.reduceAdd, ↓reduceIte, decide_true, decide_false, and_self]
    exact ⟨_, _, rfl, rfl, .of_eq (by rw [e]; rfl), rfl⟩
end Go.Proofs.YteapibifebnboaaDoor
