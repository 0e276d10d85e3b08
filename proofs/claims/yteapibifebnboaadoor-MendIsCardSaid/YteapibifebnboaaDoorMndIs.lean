/- Law MendIs: the walk. -/
import Derived.Test.YteapibifebnboaaDoorMndMd
import Derived.Test.YteapibifebnboaaDoorMndM
import Derived.Test.YteapibifebnboaaDoorMndS
import Derived.Test.YteapibifebnboaaDoorMndN
set_option linter.unusedVariables false
set_option linter.unusedSimpArgs false
namespace Go.Proofs.YteapibifebnboaaDoor
open Go Go.Eng
set_option maxRecDepth 100000 in
set_option maxHeartbeats 8000000 in
theorem MendIs_c (b : List Int) (hb : inB b) (hn : b.length ≤ 140737488351232) : ACall Tryd.prog 3 [.sl b.length (u8s b)] (.bool true) none := by
  refine acall_intro none Tryd.func3 rfl (by kernel_rfl) (by simp [Tryd.f3]) ?_
  by_cases h1 : 5000 < b.length
  · have h1' : (5000 : Int) < (b.length : Int) := by omega
    refine ex_run 30 ?_
    simp (maxSteps := 200000) only [Tryd.f3, h1', push_cast, List.getD_cons_zero, List.getD_cons_succ, List.take_succ_cons, List.take_zero, List.drop_succ_cons, Nat.reduceLT, Nat.reduceLeDiff, Nat.reduceEqDiff, Nat.reduceAdd, Nat.reduceMul, Nat.reduceSub, Int.reduceToNat, Int.reduceLE, Int.reduceLT, Int.reduceEq, Int.reduceAdd, ↓reduceIte, decide_true, decide_false, and_self]
    refine call_intro answers23_c (fun h => by cases h) ?_
    simp (maxSteps := 200000) only [push_cast, List.getD_cons_zero, List.getD_cons_succ, List.take_succ_cons, List.take_zero, List.drop_succ_cons, Nat.reduceLT, Nat.reduceLeDiff, Nat.reduceEqDiff, Nat.reduceAdd, Nat.reduceMul, Nat.reduceSub, Int.reduceToNat, Int.reduceLE, Int.reduceLT, Int.reduceEq, Int.reduceAdd, ↓reduceIte, decide_true, decide_false, and_self]
    exact ⟨_, _, rfl, rfl, .refl _, rfl⟩
  · have h1' : ¬ (5000 : Int) < (b.length : Int) := by omega
    have hM := Mend_c b hb (by omega)
    have hrM := rMend_c b hb (by omega)
    have hL := Lead_c b (by omega) hb
    have hrL := rLead_c b (by omega) hb
    have hS := same_c b b (by omega)
    have hS2 := same_c (mendM b) (mendM b) (by have := mend_len hb; omega)
    rw [beq_self_eq_true] at hS hS2
    have hbc := u8s_closed b
    have hmc := u8s_closed (mendM b)
    generalize mendM b = x at *
    refine ex_run 9 ?_
    simp (maxSteps := 200000) only [Tryd.f3, h1', push_cast, List.getD_cons_zero, List.getD_cons_succ, List.take_succ_cons, List.take_zero, List.drop_succ_cons, Nat.reduceLT, Nat.reduceLeDiff, Nat.reduceEqDiff, Nat.reduceAdd, Nat.reduceMul, Nat.reduceSub, Int.reduceToNat, Int.reduceLE, Int.reduceLT, Int.reduceEq, Int.reduceAdd, ↓reduceIte, decide_true, decide_false, and_self]
    repeat (first | (refine ⟨by omega, ?_⟩) | (refine ⟨⟨by omega, by omega⟩, ?_⟩))
    refine run_keep (l' := [(0, .sl b.length (u8s b)), (3, .own 9 _ 0 b.length)]) (t' := [(9, ⟨_, 1, u8s b⟩)]) (nx' := _) ⟨.refl _, .refl _, trivial⟩ ⟨⟨_, rfl, rfl, rfl, SubL.refl _⟩, trivial⟩ (Nat.le_refl _) ?_
    refine Go.Eng.run_freeze (l' := [(0, .sl b.length (u8s b)), (3, .sl b.length (u8s b))]) (tl' := []) 9 ⟨_, 1, u8s b⟩ rfl ⟨.keep _, frz_own _ _ _, trivial⟩ trivial ?_
    refine ex_run 60 ?_
    simp (maxSteps := 200000) only [push_cast, List.getD_cons_zero, List.getD_cons_succ, List.take_succ_cons, List.take_zero, List.drop_succ_cons, Nat.reduceLT, Nat.reduceLeDiff, Nat.reduceEqDiff, Nat.reduceAdd, Nat.reduceMul, Nat.reduceSub, Int.reduceToNat, Int.reduceLE, Int.reduceLT, Int.reduceEq, Int.reduceAdd, ↓reduceIte, decide_true, decide_false, and_self]
    refine call_intro hM (fun h => by cases h) ?_
    simp (maxSteps := 200000) only [hbc, hmc, push_cast, List.getD_cons_zero, List.getD_cons_succ, List.take_succ_cons, List.take_zero, List.drop_succ_cons, Nat.reduceLT, Nat.reduceLeDiff, Nat.reduceEqDiff, Nat.reduceAdd, Nat.reduceMul, Nat.reduceSub, Int.reduceToNat, Int.reduceLE, Int.reduceLT, Int.reduceEq, Int.reduceAdd, ↓reduceIte, decide_true, decide_false, and_self]
    refine call_intro answers23_c (fun h => by cases h) ?_
    simp (maxSteps := 200000) only [hbc, hmc, push_cast, List.getD_cons_zero, List.getD_cons_succ, List.take_succ_cons, List.take_zero, List.drop_succ_cons, Nat.reduceLT, Nat.reduceLeDiff, Nat.reduceEqDiff, Nat.reduceAdd, Nat.reduceMul, Nat.reduceSub, Int.reduceToNat, Int.reduceLE, Int.reduceLT, Int.reduceEq, Int.reduceAdd, ↓reduceIte, decide_true, decide_false, and_self]
    refine call_intro hrM (fun h => by cases h) ?_
    simp (maxSteps := 200000) only [hbc, hmc, push_cast, List.getD_cons_zero, List.getD_cons_succ, List.take_succ_cons, List.take_zero, List.drop_succ_cons, Nat.reduceLT, Nat.reduceLeDiff, Nat.reduceEqDiff, Nat.reduceAdd, Nat.reduceMul, Nat.reduceSub, Int.reduceToNat, Int.reduceLE, Int.reduceLT, Int.reduceEq, Int.reduceAdd, ↓reduceIte, decide_true, decide_false, and_self]
    refine call_intro hS2 (fun h => by cases h) ?_
    simp (maxSteps := 200000) only [hbc, hmc, push_cast, List.getD_cons_zero, List.getD_cons_succ, List.take_succ_cons, List.take_zero, List.drop_succ_cons, Nat.reduceLT, Nat.reduceLeDiff, Nat.reduceEqDiff, Nat.reduceAdd, Nat.reduceMul, Nat.reduceSub, Int.reduceToNat, Int.reduceLE, Int.reduceLT, Int.reduceEq, Int.reduceAdd, ↓reduceIte, decide_true, decide_false, and_self]
    refine call_intro hS (fun h => by cases h) ?_
    simp (maxSteps := 200000) only [hbc, hmc, push_cast, List.getD_cons_zero, List.getD_cons_succ, List.take_succ_cons, List.take_zero, List.drop_succ_cons, Nat.reduceLT, Nat.reduceLeDiff, Nat.reduceEqDiff, Nat.reduceAdd, Nat.reduceMul, Nat.reduceSub, Int.reduceToNat, Int.reduceLE, Int.reduceLT, Int.reduceEq, Int.reduceAdd, ↓reduceIte, decide_true, decide_false, and_self]
    refine call_intro hL (fun h => by cases h) ?_
    simp (maxSteps := 200000) only [hbc, hmc, push_cast, List.getD_cons_zero, List.getD_cons_succ, List.take_succ_cons, List.take_zero, List.drop_succ_cons, Nat.reduceLT, Nat.reduceLeDiff, Nat.reduceEqDiff, Nat.reduceAdd, Nat.reduceMul, Nat.reduceSub, Int.reduceToNat, Int.reduceLE, Int.reduceLT, Int.reduceEq, Int.reduceAdd, ↓reduceIte, decide_true, decide_false, and_self]
    refine call_intro hrL (fun h => by cases h) ?_
    simp (maxSteps := 200000) only [hbc, hmc, beq_self_eq_true, push_cast, List.getD_cons_zero, List.getD_cons_succ, List.take_succ_cons, List.take_zero, List.drop_succ_cons, Nat.reduceLT, Nat.reduceLeDiff, Nat.reduceEqDiff, Nat.reduceAdd, Nat.reduceMul, Nat.reduceSub, Int.reduceToNat, Int.reduceLE, Int.reduceLT, Int.reduceEq, Int.reduceAdd, ↓reduceIte, decide_true, decide_false, and_self]
    exact ⟨_, [.bool true], rfl, by simp [outA, outV, outC, mkS_env, mkS_tk, lkF, lkG, AV.closed], .refl _, rfl⟩
theorem MendIs_call {a : AV} (h : ∃ l : List Int, (∀ c ∈ l, 0 ≤ c ∧ c < 256) ∧ l.length ≤ 140737488351232 ∧ [a] = [.sl l.length (u8s l)]) : ACall Tryd.prog 3 [a] (.bool true) none := by
  obtain ⟨l, h1, h2, e⟩ := h
  cases e
  exact MendIs_c l h1 h2
end Go.Proofs.YteapibifebnboaaDoor
