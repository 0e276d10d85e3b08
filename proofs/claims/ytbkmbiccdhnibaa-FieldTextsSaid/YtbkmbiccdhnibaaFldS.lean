/- The law FieldParses: at every argument it returns true. -/
import Derived.Test.YtbkmbiccdhnibaaFldR
import Derived.Test.YtbkmbiccdhnibaaFldM
set_option linter.unusedVariables false
set_option linter.unusedSimpArgs false
namespace Go.Proofs.Ytbkmbiccdhnibaa
open Go Go.Eng
theorem sameB_refl (f : FV) : sameB f f = true := decide_eq_true rfl
set_option maxRecDepth 100000 in
set_option maxHeartbeats 8000000 in
theorem FieldParses_c (tag b : List Int) (ht : tag.length ≤ 140737488351232) (hl : b.length ≤ 140737488351232) (hb : inB b) : ACall Try.prog 7 [.str tag, .sl b.length (u8s b)] (.bool true) none := by
  refine acall_intro none Try.func7 rfl (by kernel_rfl) (by simp [Try.f7]) ?_
  by_cases h1 : 3000 < b.length
  · have h1' : (3000 : Int) < (b.length : Int) := by omega
    refine ex_run 30 ?_
    simp (maxSteps := 200000) only [Try.f7, h1', push_cast, List.getD_cons_zero, List.getD_cons_succ, List.take_succ_cons, List.take_zero, List.drop_succ_cons, Nat.reduceLT, Nat.reduceLeDiff, Nat.reduceEqDiff, Nat.reduceAdd, Nat.reduceMul, Nat.reduceSub, Int.reduceToNat, Int.reduceLE, Int.reduceLT, Int.reduceEq, Int.reduceAdd, ↓reduceIte, decide_true, decide_false, and_self]
    refine call_intro answers21_c (fun h => by cases h) ?_
    simp (maxSteps := 200000) only [push_cast, List.getD_cons_zero, List.getD_cons_succ, List.take_succ_cons, List.take_zero, List.drop_succ_cons, Nat.reduceLT, Nat.reduceLeDiff, Nat.reduceEqDiff, Nat.reduceAdd, Nat.reduceMul, Nat.reduceSub, Int.reduceToNat, Int.reduceLE, Int.reduceLT, Int.reduceEq, Int.reduceAdd, ↓reduceIte, decide_true, decide_false, and_self]
    exact ⟨_, _, rfl, rfl, .refl _, rfl⟩
  · have h1' : ¬ (3000 : Int) < (b.length : Int) := by omega
    by_cases h2 : 100 < tag.length
    · have h2' : (100 : Int) < (tag.length : Int) := by omega
      refine ex_run 30 ?_
      simp (maxSteps := 200000) only [Try.f7, h1', h2', push_cast, List.getD_cons_zero, List.getD_cons_succ, List.take_succ_cons, List.take_zero, List.drop_succ_cons, Nat.reduceLT, Nat.reduceLeDiff, Nat.reduceEqDiff, Nat.reduceAdd, Nat.reduceMul, Nat.reduceSub, Int.reduceToNat, Int.reduceLE, Int.reduceLT, Int.reduceEq, Int.reduceAdd, ↓reduceIte, decide_true, decide_false, and_self]
      refine call_intro answers21_c (fun h => by cases h) ?_
      simp (maxSteps := 200000) only [push_cast, List.getD_cons_zero, List.getD_cons_succ, List.take_succ_cons, List.take_zero, List.drop_succ_cons, Nat.reduceLT, Nat.reduceLeDiff, Nat.reduceEqDiff, Nat.reduceAdd, Nat.reduceMul, Nat.reduceSub, Int.reduceToNat, Int.reduceLE, Int.reduceLT, Int.reduceEq, Int.reduceAdd, ↓reduceIte, decide_true, decide_false, and_self]
      exact ⟨_, _, rfl, rfl, .refl _, rfl⟩
    · have h2' : ¬ (100 : Int) < (tag.length : Int) := by omega
      refine ex_run 8 ?_
      simp (maxSteps := 200000) only [Try.f7, h1', h2', push_cast, List.getD_cons_zero, List.getD_cons_succ, List.take_succ_cons, List.take_zero, List.drop_succ_cons, Nat.reduceLT, Nat.reduceLeDiff, Nat.reduceEqDiff, Nat.reduceAdd, Nat.reduceMul, Nat.reduceSub, Int.reduceToNat, Int.reduceLE, Int.reduceLT, Int.reduceEq, Int.reduceAdd, ↓reduceIte, decide_true, decide_false, and_self]
      refine run_region_cut 4 (by decide) ?_
      simp (maxSteps := 200000) only [List.toList_toArray, push_cast, List.getD_cons_zero, List.getD_cons_succ, List.take_succ_cons, List.take_zero, List.drop_succ_cons, Nat.reduceLT, Nat.reduceLeDiff, Nat.reduceEqDiff, Nat.reduceAdd, Nat.reduceMul, Nat.reduceSub, Int.reduceToNat, Int.reduceLE, Int.reduceLT, Int.reduceEq, Int.reduceAdd, ↓reduceIte, decide_true, decide_false, and_self]
      refine ⟨⟨by omega, by omega⟩, mkS [(24, .sl b.length (u8s b)), (21, .str tag), (4, .bool false), (0, .str tag), (1, .sl b.length (u8s b))] [] 21,
        freeze_leU 22 ⟨12, 1, u8s b⟩ rfl ⟨frz_own _ _ _, .keep _, .keep _, .keep _, .keep _, trivial⟩ trivial, rfl, ?_⟩
      simp (maxSteps := 200000) only [List.toList_toArray, push_cast, List.getD_cons_zero, List.getD_cons_succ, List.take_succ_cons, List.take_zero, List.drop_succ_cons, Nat.reduceLT, Nat.reduceLeDiff, Nat.reduceEqDiff, Nat.reduceAdd, Nat.reduceMul, Nat.reduceSub, Int.reduceToNat, Int.reduceLE, Int.reduceLT, Int.reduceEq, Int.reduceAdd, ↓reduceIte, decide_true, decide_false, and_self]
      refine call_intro (FParse_c tag b (by omega) (by omega)) (fun h => by cases h) ?_
      cases hp : fparse tag b with
      | inl a =>
        have hz : closedL (subCells zeroF.subs) = true := rfl
        simp (maxSteps := 200000) only [fres, fCells, zeroF, subCells_nil, u8s_nil, push_cast, List.getD_cons_zero, List.getD_cons_succ, List.take_succ_cons, List.take_zero, List.drop_succ_cons, Nat.reduceLT, Nat.reduceLeDiff, Nat.reduceEqDiff, Nat.reduceAdd, Nat.reduceMul, Nat.reduceSub, Int.reduceToNat, Int.reduceLE, Int.reduceLT, Int.reduceEq, Int.reduceAdd, ↓reduceIte, decide_true, decide_false, and_self]
        refine ex_run 30 ?_
        simp (maxSteps := 200000) only [push_cast, List.getD_cons_zero, List.getD_cons_succ, List.take_succ_cons, List.take_zero, List.drop_succ_cons, Nat.reduceLT, Nat.reduceLeDiff, Nat.reduceEqDiff, Nat.reduceAdd, Nat.reduceMul, Nat.reduceSub, Int.reduceToNat, Int.reduceLE, Int.reduceLT, Int.reduceEq, Int.reduceAdd, ↓reduceIte, decide_true, decide_false, and_self]
        refine call_intro (rfield_c tag b (by omega) (by omega)) (fun h => by cases h) ?_
        rw [hp]
        simp (maxSteps := 200000) only [fres, fCells, zeroF, subCells_nil, u8s_nil, push_cast, List.getD_cons_zero, List.getD_cons_succ, List.take_succ_cons, List.take_zero, List.drop_succ_cons, Nat.reduceLT, Nat.reduceLeDiff, Nat.reduceEqDiff, Nat.reduceAdd, Nat.reduceMul, Nat.reduceSub, Int.reduceToNat, Int.reduceLE, Int.reduceLT, Int.reduceEq, Int.reduceAdd, ↓reduceIte, decide_true, decide_false, and_self]
        refine call_intro answers21_c (fun h => by cases h) ?_
        simp (maxSteps := 200000) only [beq_self_eq_true, Bool.and_self, Bool.not_true, push_cast, List.getD_cons_zero, List.getD_cons_succ, List.take_succ_cons, List.take_zero, List.drop_succ_cons, Nat.reduceLT, Nat.reduceLeDiff, Nat.reduceEqDiff, Nat.reduceAdd, Nat.reduceMul, Nat.reduceSub, Int.reduceToNat, Int.reduceLE, Int.reduceLT, Int.reduceEq, Int.reduceAdd, ↓reduceIte, decide_true, decide_false, and_self]
        refine call_intro (rsame_c zeroF zeroF (by decide) (by intro s hs; cases hs) (by decide)) (fun h => by cases h) ?_
        rw [sameB_refl]
        simp (maxSteps := 200000) only [push_cast, List.getD_cons_zero, List.getD_cons_succ, List.take_succ_cons, List.take_zero, List.drop_succ_cons, Nat.reduceLT, Nat.reduceLeDiff, Nat.reduceEqDiff, Nat.reduceAdd, Nat.reduceMul, Nat.reduceSub, Int.reduceToNat, Int.reduceLE, Int.reduceLT, Int.reduceEq, Int.reduceAdd, ↓reduceIte, decide_true, decide_false, and_self]
        exact ⟨_, _, rfl, rfl, .refl _, rfl⟩
      | inr g => 
        have hcg : closedL (subCells g.subs) = true := subCells_closed _
        simp (maxSteps := 200000) only [fres, fCells, hcg, push_cast, List.getD_cons_zero, List.getD_cons_succ, List.take_succ_cons, List.take_zero, List.drop_succ_cons, Nat.reduceLT, Nat.reduceLeDiff, Nat.reduceEqDiff, Nat.reduceAdd, Nat.reduceMul, Nat.reduceSub, Int.reduceToNat, Int.reduceLE, Int.reduceLT, Int.reduceEq, Int.reduceAdd, ↓reduceIte, decide_true, decide_false, and_self]
        refine ex_run 30 ?_
        simp (maxSteps := 200000) only [push_cast, List.getD_cons_zero, List.getD_cons_succ, List.take_succ_cons, List.take_zero, List.drop_succ_cons, Nat.reduceLT, Nat.reduceLeDiff, Nat.reduceEqDiff, Nat.reduceAdd, Nat.reduceMul, Nat.reduceSub, Int.reduceToNat, Int.reduceLE, Int.reduceLT, Int.reduceEq, Int.reduceAdd, ↓reduceIte, decide_true, decide_false, and_self]
        refine call_intro (rfield_c tag b (by omega) (by omega)) (fun h => by cases h) ?_
        rw [hp]
        simp (maxSteps := 200000) only [fres, fCells, hcg, push_cast, List.getD_cons_zero, List.getD_cons_succ, List.take_succ_cons, List.take_zero, List.drop_succ_cons, Nat.reduceLT, Nat.reduceLeDiff, Nat.reduceEqDiff, Nat.reduceAdd, Nat.reduceMul, Nat.reduceSub, Int.reduceToNat, Int.reduceLE, Int.reduceLT, Int.reduceEq, Int.reduceAdd, ↓reduceIte, decide_true, decide_false, and_self]
        refine call_intro answers21_c (fun h => by cases h) ?_
        simp (maxSteps := 200000) only [hcg, beq_self_eq_true, Bool.and_self, Bool.not_true, push_cast, List.getD_cons_zero, List.getD_cons_succ, List.take_succ_cons, List.take_zero, List.drop_succ_cons, Nat.reduceLT, Nat.reduceLeDiff, Nat.reduceEqDiff, Nat.reduceAdd, Nat.reduceMul, Nat.reduceSub, Int.reduceToNat, Int.reduceLE, Int.reduceLT, Int.reduceEq, Int.reduceAdd, ↓reduceIte, decide_true, decide_false, and_self]
        obtain ⟨z1, z2, z3⟩ := fparse_sizes hp
        obtain ⟨y1, y2, _⟩ := fparse_bytes hp
        have hFg := fparse_FB hp hb
        refine call_intro (rsame_c g g (by omega) (fun s hs => by have := z3 s hs; omega) (by omega)) (fun h => by cases h) ?_
        rw [sameB_refl]
        simp (maxSteps := 200000) only [hcg, push_cast, List.getD_cons_zero, List.getD_cons_succ, List.take_succ_cons, List.take_zero, List.drop_succ_cons, Nat.reduceLT, Nat.reduceLeDiff, Nat.reduceEqDiff, Nat.reduceAdd, Nat.reduceMul, Nat.reduceSub, Int.reduceToNat, Int.reduceLE, Int.reduceLT, Int.reduceEq, Int.reduceAdd, ↓reduceIte, decide_true, decide_false, and_self]
        refine call_intro (Print_c g hFg (by rw [y2]; omega) (by omega) (by rw [y1]; omega) (by omega)) (fun h => by cases h) ?_
        unfold prR
        rw [if_pos (fparse_good hp), y1]
        simp (maxSteps := 200000) only [hcg, push_cast, List.getD_cons_zero, List.getD_cons_succ, List.take_succ_cons, List.take_zero, List.drop_succ_cons, Nat.reduceLT, Nat.reduceLeDiff, Nat.reduceEqDiff, Nat.reduceAdd, Nat.reduceMul, Nat.reduceSub, Int.reduceToNat, Int.reduceLE, Int.reduceLT, Int.reduceEq, Int.reduceAdd, ↓reduceIte, decide_true, decide_false, and_self]
        refine call_intro (same_c b b (by omega)) (fun h => by cases h) ?_
        rw [beq_self_eq_true]
        simp (maxSteps := 200000) only [hcg, push_cast, List.getD_cons_zero, List.getD_cons_succ, List.take_succ_cons, List.take_zero, List.drop_succ_cons, Nat.reduceLT, Nat.reduceLeDiff, Nat.reduceEqDiff, Nat.reduceAdd, Nat.reduceMul, Nat.reduceSub, Int.reduceToNat, Int.reduceLE, Int.reduceLT, Int.reduceEq, Int.reduceAdd, ↓reduceIte, decide_true, decide_false, and_self]
        exact ⟨_, _, rfl, rfl, .refl _, rfl⟩
end Go.Proofs.Ytbkmbiccdhnibaa
