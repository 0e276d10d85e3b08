/- The law ClassAll: at every argument it returns true. -/
import Derived.Test.YtpgjcmmbkgkhlaaClsG
set_option linter.unusedVariables false
set_option linter.unusedSimpArgs false
namespace Go.Proofs.Ytpgjcmmbkgkhlaa
open Go Go.Eng
theorem All_c' : ACall Try.prog 15 [] (.own 0 0 0 145) (some ⟨0, 1, i32s allL⟩) := allL_len ▸ All_c
theorem Marks_c' : ACall Try.prog 16 [] (.own 0 0 0 145) (some ⟨0, 1, i32s allL⟩) := allL_len ▸ Marks_c
def lS (x : Int) (i nx : Nat) : AS := mkS [(0, .int .i32 x), (2, .bool false), (3, .own 7 1 0 145), (4, .own 8 3 0 145), (5, .bool (decide (x ∈ allL.take i))), (6, .int .i64 i)] [(7, ⟨1, 1, i32s allL⟩), (8, ⟨3, 1, i32s allL⟩)] nx
theorem take_mem (x : Int) (i : Nat) (h : i < allL.length) : decide (x ∈ allL.take (i + 1)) = (decide (x ∈ allL.take i) || decide (allL.getD i 0 = x)) := by
  have e : allL.take (i + 1) = allL.take i ++ [allL.getD i 0] := by
    rw [List.take_add_one, List.getElem?_eq_getElem h, List.getD_eq_getElem?_getD, List.getElem?_eq_getElem h]; rfl
  rw [e]
  generalize allL.getD i 0 = v
  by_cases h1 : x ∈ allL.take i
  · rw [decide_eq_true h1, decide_eq_true (List.mem_append_left _ h1)]; rfl
  · by_cases h2 : v = x
    · subst h2; rw [decide_eq_true (List.mem_append_right _ (List.mem_singleton.2 rfl))]; simp
    · have h3 : ¬ x ∈ allL.take i ++ [v] := fun hm => by
        rcases List.mem_append.1 hm with hm | hm
        · exact h1 hm
        · exact h2 (List.mem_singleton.1 hm).symm
      rw [decide_eq_false h1, decide_eq_false h2, decide_eq_false h3]; rfl
set_option maxRecDepth 100000 in
set_option maxHeartbeats 4000000 in
theorem ClassAll_c (x : Int) (hx : -2147483648 ≤ x ∧ x ≤ 2147483647) : ACall Try.prog 6 [.int .i32 x] (.bool true) none := by
  refine acall_intro none Try.func6 rfl (by kernel_rfl) (by simp [Try.f6]) ?_
  refine ex_run 30 ?_
  simp (maxSteps := 200000) only [Try.f6, push_cast, List.getD_cons_zero, List.getD_cons_succ, List.take_succ_cons, List.take_zero, List.drop_succ_cons, Nat.reduceLT, Nat.reduceLeDiff, Nat.reduceEqDiff, Nat.reduceAdd, Nat.reduceMul, Nat.reduceSub, Int.reduceToNat, Int.reduceLE, Int.reduceLT, Int.reduceEq, Int.reduceAdd, ↓reduceIte, decide_true, decide_false, and_self]
  refine call_intro All_c' (fun h => by cases h) ?_
  simp (maxSteps := 200000) only [push_cast, List.getD_cons_zero, List.getD_cons_succ, List.take_succ_cons, List.take_zero, List.drop_succ_cons, Nat.reduceLT, Nat.reduceLeDiff, Nat.reduceEqDiff, Nat.reduceAdd, Nat.reduceMul, Nat.reduceSub, Int.reduceToNat, Int.reduceLE, Int.reduceLT, Int.reduceEq, Int.reduceAdd, ↓reduceIte, decide_true, decide_false, and_self]
  refine call_intro Marks_c' (fun h => by cases h) ?_
  simp (maxSteps := 200000) only [push_cast, List.getD_cons_zero, List.getD_cons_succ, List.take_succ_cons, List.take_zero, List.drop_succ_cons, Nat.reduceLT, Nat.reduceLeDiff, Nat.reduceEqDiff, Nat.reduceAdd, Nat.reduceMul, Nat.reduceSub, Int.reduceToNat, Int.reduceLE, Int.reduceLT, Int.reduceEq, Int.reduceAdd, ↓reduceIte, decide_true, decide_false, and_self]
  refine call_intro answers3_c (fun h => by cases h) ?_
  simp (maxSteps := 200000) only [push_cast, List.getD_cons_zero, List.getD_cons_succ, List.take_succ_cons, List.take_zero, List.drop_succ_cons, Nat.reduceLT, Nat.reduceLeDiff, Nat.reduceEqDiff, Nat.reduceAdd, Nat.reduceMul, Nat.reduceSub, Int.reduceToNat, Int.reduceLE, Int.reduceLT, Int.reduceEq, Int.reduceAdd, ↓reduceIte, decide_true, decide_false, and_self]
  refine run_keep (l' := [(0, .int .i32 x), (2, .bool false), (3, .own 7 1 0 145), (4, .own 8 3 0 145), (5, .bool false), (6, .int .i64 0)]) (t' := [(7, ⟨1, 1, i32s allL⟩), (8, ⟨3, 1, i32s allL⟩)]) (nx' := _) ⟨.refl _, .refl _, .refl _, .refl _, .refl _, .refl _, trivial⟩ ⟨⟨_, rfl, rfl, rfl, SubL.refl _⟩, ⟨_, rfl, rfl, rfl, SubL.refl _⟩, trivial⟩ (Nat.le_refl _) ?_
  refine run_loop (fun n s => ∃ (i nx : Nat), i ≤ 145 ∧ n = 145 - i ∧ s = lS x i nx) _ ⟨0, _, Nat.zero_le _, rfl, rfl⟩ ?_
  rintro n s ⟨i, nx, hi, rfl, rfl⟩
  unfold lS
  have hl : (i32s allL).length = 145 := by rw [i32s_length, allL_len]
  have hl' : allL.length = 145 := allL_len
  by_cases h : i < 145
  · have h' : (i : Int) < 145 := by omega
    have hv := i32s_getD allL i (by rw [allL_len]; exact h)
    have htm := take_mem x i (by rw [allL_len]; exact h)
    have hw : IntKind.i64.wrap ((i : Int) + 1) = ((i + 1 : Nat) : Int) := by rw [wrap_i64 (by omega)]; omega
    by_cases h0 : i = 0
    · subst h0
      generalize allL.getD 0 0 = v at hv htm
      have hm : decide (x ∈ allL.take 0) = false := by simp
      rw [hm] at htm ⊢
      refine ex_run 30 ?_
      simp (maxSteps := 200000) only [hl, hl', hv, push_cast, List.getD_cons_zero, List.getD_cons_succ, List.take_succ_cons, List.take_zero, List.drop_succ_cons, Nat.reduceLT, Nat.reduceLeDiff, Nat.reduceEqDiff, Nat.reduceAdd, Nat.reduceMul, Nat.reduceSub, Int.reduceToNat, Int.reduceLE, Int.reduceLT, Int.reduceEq, Int.reduceAdd, ↓reduceIte, decide_true, decide_false, and_self]
      refine ⟨by kernel_rfl, by kernel_rfl, ?_⟩
      have w1 : IntKind.i64.wrap 1 = ((0 + 1 : Nat) : Int) := wrap_i64 (by omega)
      rw [w1]
      refine run_back_le (le_mk (l' := [(0, .int .i32 x), (2, .bool false), (3, .own 7 1 0 145), (4, .own 8 3 0 145), (5, .bool (decide (x ∈ allL.take (0 + 1)))), (6, .int .i64 ((0 + 1 : Nat) : Int))]) (t' := [(7, ⟨1, 1, i32s allL⟩), (8, ⟨3, 1, i32s allL⟩)]) (nx' := _)
        ⟨.refl _, .refl _, .refl _, .refl _, .of_eq (congrArg AV.bool (by rw [htm]; rfl)), .refl _, trivial⟩ ⟨⟨_, rfl, rfl, rfl, SubL.refl _⟩, ⟨_, rfl, rfl, rfl, SubL.refl _⟩, trivial⟩ (Nat.le_refl _)) ?_
      exact ⟨145 - 1, by omega, 0 + 1, _, by omega, rfl, rfl⟩
    · have h0' : 0 < (i : Int) := by omega
      have hu := i32s_getD allL (i - 1) (by rw [allL_len]; omega)
      have hlt := rising_get allL_rising (i - 1) (by rw [allL_len]; omega)
      rw [show i - 1 + 1 = i by omega] at hlt
      generalize allL.getD i 0 = v at hv htm hlt
      generalize allL.getD (i - 1) 0 = u at hu hlt
      have hlt' : ¬ v ≤ u := by omega
      have w2 : IntKind.i64.wrap ((i : Int) - 1) = (i : Int) - 1 := wrap_i64 (by omega)
      have t2 : ((i : Int) - 1).toNat = i - 1 := by omega
      have b1 : 0 ≤ (i : Int) - 1 := by omega
      have b2 : (i : Int) - 1 < 145 := by omega
      have b3 : i - 1 < 145 := by omega
      generalize hm : decide (x ∈ allL.take i) = m at htm
      refine ex_run 30 ?_
      cases m
      all_goals simp (maxSteps := 200000) only [h, h', h0', hl, hl', hv, hu, hlt', w2, t2, b1, b2, b3, hw, push_cast, List.getD_cons_zero, List.getD_cons_succ, List.take_succ_cons, List.take_zero, List.drop_succ_cons, Nat.reduceLT, Nat.reduceLeDiff, Nat.reduceEqDiff, Nat.reduceAdd, Nat.reduceMul, Nat.reduceSub, Int.reduceToNat, Int.reduceLE, Int.reduceLT, Int.reduceEq, Int.reduceAdd, ↓reduceIte, decide_true, decide_false, and_self]
      all_goals refine ⟨by kernel_rfl, by kernel_rfl, ?_⟩
      all_goals refine run_back_le (le_mk (l' := [(0, .int .i32 x), (2, .bool false), (3, .own 7 1 0 145), (4, .own 8 3 0 145), (5, .bool (decide (x ∈ allL.take (i + 1)))), (6, .int .i64 ((i + 1 : Nat) : Int))]) (t' := [(7, ⟨1, 1, i32s allL⟩), (8, ⟨3, 1, i32s allL⟩)]) (nx' := _)
        ⟨.refl _, .refl _, .refl _, .refl _, .of_eq (congrArg AV.bool (by rw [htm]; rfl)), .of_eq (congrArg (AV.int .i64) (by omega)), trivial⟩ ⟨⟨_, rfl, rfl, rfl, SubL.refl _⟩, ⟨_, rfl, rfl, rfl, SubL.refl _⟩, trivial⟩ (Nat.le_refl _)) ?_
      all_goals exact ⟨145 - (i + 1), by omega, i + 1, _, by omega, rfl, rfl⟩
  · have h' : ¬ (i : Int) < 145 := by omega
    have e : allL.take i = allL := List.take_of_length_le (by rw [allL_len]; omega)
    have e2 : decide (x ∈ allL) = decide (0 < clsOf x) := by simp only [mem_allL]
    rw [e, e2]
    refine ex_run 30 ?_
    simp (maxSteps := 200000) only [h', push_cast, List.getD_cons_zero, List.getD_cons_succ, List.take_succ_cons, List.take_zero, List.drop_succ_cons, Nat.reduceLT, Nat.reduceLeDiff, Nat.reduceEqDiff, Nat.reduceAdd, Nat.reduceMul, Nat.reduceSub, Int.reduceToNat, Int.reduceLE, Int.reduceLT, Int.reduceEq, Int.reduceAdd, ↓reduceIte, decide_true, decide_false, and_self]
    refine call_intro (Mark_c x hx) (fun h => by cases h) ?_
    generalize decide (0 < clsOf x) = b
    cases b
    all_goals simp (maxSteps := 200000) only [push_cast, List.getD_cons_zero, List.getD_cons_succ, List.take_succ_cons, List.take_zero, List.drop_succ_cons, Nat.reduceLT, Nat.reduceLeDiff, Nat.reduceEqDiff, Nat.reduceAdd, Nat.reduceMul, Nat.reduceSub, Int.reduceToNat, Int.reduceLE, Int.reduceLT, Int.reduceEq, Int.reduceAdd, ↓reduceIte, decide_true, decide_false, and_self]
    all_goals exact ⟨_, _, rfl, rfl, .refl _, rfl⟩
end Go.Proofs.Ytpgjcmmbkgkhlaa
