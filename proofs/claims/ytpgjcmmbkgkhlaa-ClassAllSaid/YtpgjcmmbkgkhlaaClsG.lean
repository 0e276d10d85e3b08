/- ref03.Marks -/
import Derived.Test.YtpgjcmmbkgkhlaaClsF
set_option linter.unusedVariables false
set_option linter.unusedSimpArgs false
namespace Go.Proofs.Ytpgjcmmbkgkhlaa
open Go Go.Eng
def nxt (r : Int) : Int := if r = 1024 then 1424 else if r = 1792 then 12432 else if r = 12448 then 64256 else r
theorem marks_step {k : Nat} {r : Int} (h : r < 65072) : marksFrom (k + 1) r = if 0 < clsOf (nxt r) then nxt r :: marksFrom k (nxt r + 1) else marksFrom k (nxt r + 1) := by
  have e : (let r1 := if r = 1024 then (1424 : Int) else r
      let r2 := if r1 = 1792 then 12432 else r1
      if r2 = 12448 then 64256 else r2) = nxt r := by
    unfold nxt
    by_cases h1 : r = 1024
    · simp [h1]
    · by_cases h2 : r = 1792
      · simp [h2]
      · simp [h1, h2]
  show (if r < 65072 then _ else _) = _
  rw [if_pos h]
  show (if 0 < clsOf (let r1 := if r = 1024 then (1424 : Int) else r
      let r2 := if r1 = 1792 then 12432 else r1
      if r2 = 12448 then 64256 else r2) then _ else _) = _
  rw [e]
def mS (r : Int) (g nx : Nat) (out : List Int) : AS := mkS [(0, .nilS), (1, .own 100 g 0 out.length), (2, .int .i32 r)] [(100, ⟨g, 1, i32s out⟩)] nx
set_option maxRecDepth 100000 in
set_option maxHeartbeats 4000000 in
theorem Marks_c : ACall Try.prog 16 [] (.own 0 0 0 allL.length) (some ⟨0, 1, i32s allL⟩) := by
  refine acall_intro (some 100) Try.func16 rfl (by kernel_rfl) (by simp [Try.f16]) ?_
  refine ex_run 30 ?_
  simp (maxSteps := 200000) only [Try.f16, push_cast, List.getD_cons_zero, List.getD_cons_succ, List.take_succ_cons, List.take_zero, List.drop_succ_cons, Nat.reduceLT, Nat.reduceLeDiff, Nat.reduceEqDiff, Nat.reduceAdd, Nat.reduceMul, Nat.reduceSub, Int.reduceToNat, Int.reduceLE, Int.reduceLT, Int.reduceEq, Int.reduceAdd, ↓reduceIte, decide_true, decide_false, and_self]
  refine run_lazy 1 100 1 rfl ?_
  refine run_keep (l' := [(0, .nilS), (1, .own 100 3 0 0), (2, .int .i32 768)]) (t' := [(100, ⟨3, 1, []⟩)]) (nx' := _) ⟨.refl _, .refl _, .refl _, trivial⟩ ⟨⟨_, rfl, rfl, rfl, SubL.refl _⟩, trivial⟩ (Nat.le_refl _) ?_
  refine run_loop (fun n s => ∃ (k : Nat) (r : Int) (g nx : Nat) (out : List Int), 768 ≤ r ∧ r ≤ 65072 ∧ n = (65072 - r).toNat ∧ 65072 - r ≤ k ∧ out ++ marksFrom k r = allL ∧ s = mS r g nx out) _ ⟨64304, 768, 3, _, [], by omega, by omega, rfl, by omega, marks_eq, rfl⟩ ?_
  rintro n s ⟨k, r, g, nx, out, hr0, hr1, rfl, hk, hout, rfl⟩
  have hol : out.length ≤ 145 := by
    have := congrArg List.length hout
    rw [List.length_append, allL_len] at this; omega
  unfold mS
  by_cases h : r < 65072
  · obtain ⟨k, rfl⟩ : ∃ m, k = m + 1 := ⟨k - 1, by omega⟩
    rw [marks_step h] at hout
    have hn : r ≤ nxt r ∧ nxt r < 65072 := by
      unfold nxt
      repeat' split
      all_goals omega
    have w1 : IntKind.i32.wrap (nxt r + 1) = nxt r + 1 := IntWalk.i32_in _ (by omega)
    have hcases : r = 1024 ∨ r = 1792 ∨ r = 12448 ∨ (r ≠ 1024 ∧ r ≠ 1792 ∧ r ≠ 12448) := by omega
    rcases hcases with rfl | rfl | rfl | ⟨n1, n2, n3⟩
    · refine ex_run 30 ?_
      simp (maxSteps := 200000) only [push_cast, List.getD_cons_zero, List.getD_cons_succ, List.take_succ_cons, List.take_zero, List.drop_succ_cons, Nat.reduceLT, Nat.reduceLeDiff, Nat.reduceEqDiff, Nat.reduceAdd, Nat.reduceMul, Nat.reduceSub, Int.reduceToNat, Int.reduceLE, Int.reduceLT, Int.reduceEq, Int.reduceAdd, ↓reduceIte, decide_true, decide_false, and_self]
      refine call_intro (Class_c _ (by omega)) (fun h => by cases h) ?_
      have hx : nxt 1024 = 1424 := by simp [nxt]
      rw [hx] at hout hn w1
      by_cases hp : 0 < clsOf 1424
      · rw [if_pos hp] at hout
        simp (maxSteps := 200000) only [hp, push_cast, List.getD_cons_zero, List.getD_cons_succ, List.take_succ_cons, List.take_zero, List.drop_succ_cons, Nat.reduceLT, Nat.reduceLeDiff, Nat.reduceEqDiff, Nat.reduceAdd, Nat.reduceMul, Nat.reduceSub, Int.reduceToNat, Int.reduceLE, Int.reduceLT, Int.reduceEq, Int.reduceAdd, ↓reduceIte, decide_true, decide_false, and_self]
        refine ⟨by omega, ?_⟩
        try rw [w1]
        exact run_back_le (le_mk (l' := [(0, .nilS), (1, .own 100 _ 0 (out ++ [1424]).length), (2, .int .i32 (1424 + 1))]) (t' := [(100, ⟨_, 1, i32s (out ++ [1424])⟩)]) (nx' := _)
          ⟨.refl _, .of_eq (congrArg (AV.own 100 _ 0) (by simp)), .refl _, trivial⟩ ⟨⟨_, rfl, rfl, rfl, SubL.refl _⟩, trivial⟩ (Nat.le_refl _))
          ⟨(65072 - ((1424 : Int) + 1)).toNat, by omega, k, (1424 : Int) + 1, _, _, out ++ [1424], by omega, by omega, rfl, by omega, by rw [List.append_assoc]; exact hout, rfl⟩
      · rw [if_neg hp] at hout
        simp (maxSteps := 200000) only [hp, push_cast, List.getD_cons_zero, List.getD_cons_succ, List.take_succ_cons, List.take_zero, List.drop_succ_cons, Nat.reduceLT, Nat.reduceLeDiff, Nat.reduceEqDiff, Nat.reduceAdd, Nat.reduceMul, Nat.reduceSub, Int.reduceToNat, Int.reduceLE, Int.reduceLT, Int.reduceEq, Int.reduceAdd, ↓reduceIte, decide_true, decide_false, and_self]
        try rw [w1]
        exact run_back_le (le_mk (l' := [(0, .nilS), (1, .own 100 _ 0 out.length), (2, .int .i32 (1424 + 1))]) (t' := [(100, ⟨_, 1, i32s out⟩)]) (nx' := _)
          ⟨.refl _, .refl _, .refl _, trivial⟩ ⟨⟨_, rfl, rfl, rfl, SubL.refl _⟩, trivial⟩ (Nat.le_refl _))
          ⟨(65072 - ((1424 : Int) + 1)).toNat, by omega, k, (1424 : Int) + 1, _, _, out, by omega, by omega, rfl, by omega, hout, rfl⟩
    · refine ex_run 30 ?_
      simp (maxSteps := 200000) only [push_cast, List.getD_cons_zero, List.getD_cons_succ, List.take_succ_cons, List.take_zero, List.drop_succ_cons, Nat.reduceLT, Nat.reduceLeDiff, Nat.reduceEqDiff, Nat.reduceAdd, Nat.reduceMul, Nat.reduceSub, Int.reduceToNat, Int.reduceLE, Int.reduceLT, Int.reduceEq, Int.reduceAdd, ↓reduceIte, decide_true, decide_false, and_self]
      refine call_intro (Class_c _ (by omega)) (fun h => by cases h) ?_
      have hx : nxt 1792 = 12432 := by simp [nxt]
      rw [hx] at hout hn w1
      by_cases hp : 0 < clsOf 12432
      · rw [if_pos hp] at hout
        simp (maxSteps := 200000) only [hp, push_cast, List.getD_cons_zero, List.getD_cons_succ, List.take_succ_cons, List.take_zero, List.drop_succ_cons, Nat.reduceLT, Nat.reduceLeDiff, Nat.reduceEqDiff, Nat.reduceAdd, Nat.reduceMul, Nat.reduceSub, Int.reduceToNat, Int.reduceLE, Int.reduceLT, Int.reduceEq, Int.reduceAdd, ↓reduceIte, decide_true, decide_false, and_self]
        refine ⟨by omega, ?_⟩
        try rw [w1]
        exact run_back_le (le_mk (l' := [(0, .nilS), (1, .own 100 _ 0 (out ++ [12432]).length), (2, .int .i32 (12432 + 1))]) (t' := [(100, ⟨_, 1, i32s (out ++ [12432])⟩)]) (nx' := _)
          ⟨.refl _, .of_eq (congrArg (AV.own 100 _ 0) (by simp)), .refl _, trivial⟩ ⟨⟨_, rfl, rfl, rfl, SubL.refl _⟩, trivial⟩ (Nat.le_refl _))
          ⟨(65072 - ((12432 : Int) + 1)).toNat, by omega, k, (12432 : Int) + 1, _, _, out ++ [12432], by omega, by omega, rfl, by omega, by rw [List.append_assoc]; exact hout, rfl⟩
      · rw [if_neg hp] at hout
        simp (maxSteps := 200000) only [hp, push_cast, List.getD_cons_zero, List.getD_cons_succ, List.take_succ_cons, List.take_zero, List.drop_succ_cons, Nat.reduceLT, Nat.reduceLeDiff, Nat.reduceEqDiff, Nat.reduceAdd, Nat.reduceMul, Nat.reduceSub, Int.reduceToNat, Int.reduceLE, Int.reduceLT, Int.reduceEq, Int.reduceAdd, ↓reduceIte, decide_true, decide_false, and_self]
        try rw [w1]
        exact run_back_le (le_mk (l' := [(0, .nilS), (1, .own 100 _ 0 out.length), (2, .int .i32 (12432 + 1))]) (t' := [(100, ⟨_, 1, i32s out⟩)]) (nx' := _)
          ⟨.refl _, .refl _, .refl _, trivial⟩ ⟨⟨_, rfl, rfl, rfl, SubL.refl _⟩, trivial⟩ (Nat.le_refl _))
          ⟨(65072 - ((12432 : Int) + 1)).toNat, by omega, k, (12432 : Int) + 1, _, _, out, by omega, by omega, rfl, by omega, hout, rfl⟩
    · refine ex_run 30 ?_
      simp (maxSteps := 200000) only [push_cast, List.getD_cons_zero, List.getD_cons_succ, List.take_succ_cons, List.take_zero, List.drop_succ_cons, Nat.reduceLT, Nat.reduceLeDiff, Nat.reduceEqDiff, Nat.reduceAdd, Nat.reduceMul, Nat.reduceSub, Int.reduceToNat, Int.reduceLE, Int.reduceLT, Int.reduceEq, Int.reduceAdd, ↓reduceIte, decide_true, decide_false, and_self]
      refine call_intro (Class_c _ (by omega)) (fun h => by cases h) ?_
      have hx : nxt 12448 = 64256 := by simp [nxt]
      rw [hx] at hout hn w1
      by_cases hp : 0 < clsOf 64256
      · rw [if_pos hp] at hout
        simp (maxSteps := 200000) only [hp, push_cast, List.getD_cons_zero, List.getD_cons_succ, List.take_succ_cons, List.take_zero, List.drop_succ_cons, Nat.reduceLT, Nat.reduceLeDiff, Nat.reduceEqDiff, Nat.reduceAdd, Nat.reduceMul, Nat.reduceSub, Int.reduceToNat, Int.reduceLE, Int.reduceLT, Int.reduceEq, Int.reduceAdd, ↓reduceIte, decide_true, decide_false, and_self]
        refine ⟨by omega, ?_⟩
        try rw [w1]
        exact run_back_le (le_mk (l' := [(0, .nilS), (1, .own 100 _ 0 (out ++ [64256]).length), (2, .int .i32 (64256 + 1))]) (t' := [(100, ⟨_, 1, i32s (out ++ [64256])⟩)]) (nx' := _)
          ⟨.refl _, .of_eq (congrArg (AV.own 100 _ 0) (by simp)), .refl _, trivial⟩ ⟨⟨_, rfl, rfl, rfl, SubL.refl _⟩, trivial⟩ (Nat.le_refl _))
          ⟨(65072 - ((64256 : Int) + 1)).toNat, by omega, k, (64256 : Int) + 1, _, _, out ++ [64256], by omega, by omega, rfl, by omega, by rw [List.append_assoc]; exact hout, rfl⟩
      · rw [if_neg hp] at hout
        simp (maxSteps := 200000) only [hp, push_cast, List.getD_cons_zero, List.getD_cons_succ, List.take_succ_cons, List.take_zero, List.drop_succ_cons, Nat.reduceLT, Nat.reduceLeDiff, Nat.reduceEqDiff, Nat.reduceAdd, Nat.reduceMul, Nat.reduceSub, Int.reduceToNat, Int.reduceLE, Int.reduceLT, Int.reduceEq, Int.reduceAdd, ↓reduceIte, decide_true, decide_false, and_self]
        try rw [w1]
        exact run_back_le (le_mk (l' := [(0, .nilS), (1, .own 100 _ 0 out.length), (2, .int .i32 (64256 + 1))]) (t' := [(100, ⟨_, 1, i32s out⟩)]) (nx' := _)
          ⟨.refl _, .refl _, .refl _, trivial⟩ ⟨⟨_, rfl, rfl, rfl, SubL.refl _⟩, trivial⟩ (Nat.le_refl _))
          ⟨(65072 - ((64256 : Int) + 1)).toNat, by omega, k, (64256 : Int) + 1, _, _, out, by omega, by omega, rfl, by omega, hout, rfl⟩
    · refine ex_run 30 ?_
      simp (maxSteps := 200000) only [h, n1, n2, n3, push_cast, List.getD_cons_zero, List.getD_cons_succ, List.take_succ_cons, List.take_zero, List.drop_succ_cons, Nat.reduceLT, Nat.reduceLeDiff, Nat.reduceEqDiff, Nat.reduceAdd, Nat.reduceMul, Nat.reduceSub, Int.reduceToNat, Int.reduceLE, Int.reduceLT, Int.reduceEq, Int.reduceAdd, ↓reduceIte, decide_true, decide_false, and_self]
      refine call_intro (Class_c _ (by omega)) (fun h => by cases h) ?_
      have hx : nxt r = r := by simp [nxt, n1, n2, n3]
      rw [hx] at hout hn w1
      by_cases hp : 0 < clsOf r
      · rw [if_pos hp] at hout
        simp (maxSteps := 200000) only [hp, push_cast, List.getD_cons_zero, List.getD_cons_succ, List.take_succ_cons, List.take_zero, List.drop_succ_cons, Nat.reduceLT, Nat.reduceLeDiff, Nat.reduceEqDiff, Nat.reduceAdd, Nat.reduceMul, Nat.reduceSub, Int.reduceToNat, Int.reduceLE, Int.reduceLT, Int.reduceEq, Int.reduceAdd, ↓reduceIte, decide_true, decide_false, and_self]
        refine ⟨by omega, ?_⟩
        rw [w1]
        exact run_back_le (le_mk (l' := [(0, .nilS), (1, .own 100 _ 0 (out ++ [r]).length), (2, .int .i32 (r + 1))]) (t' := [(100, ⟨_, 1, i32s (out ++ [r])⟩)]) (nx' := _)
          ⟨.refl _, .of_eq (congrArg (AV.own 100 _ 0) (by simp)), .refl _, trivial⟩ ⟨⟨_, rfl, rfl, rfl, SubL.refl _⟩, trivial⟩ (Nat.le_refl _))
          ⟨(65072 - (r + 1)).toNat, by omega, k, r + 1, _, _, out ++ [r], by omega, by omega, rfl, by omega, by rw [List.append_assoc]; exact hout, rfl⟩
      · rw [if_neg hp] at hout
        simp (maxSteps := 200000) only [hp, push_cast, List.getD_cons_zero, List.getD_cons_succ, List.take_succ_cons, List.take_zero, List.drop_succ_cons, Nat.reduceLT, Nat.reduceLeDiff, Nat.reduceEqDiff, Nat.reduceAdd, Nat.reduceMul, Nat.reduceSub, Int.reduceToNat, Int.reduceLE, Int.reduceLT, Int.reduceEq, Int.reduceAdd, ↓reduceIte, decide_true, decide_false, and_self]
        rw [w1]
        exact run_back_le (le_mk (l' := [(0, .nilS), (1, .own 100 _ 0 out.length), (2, .int .i32 (r + 1))]) (t' := [(100, ⟨_, 1, i32s out⟩)]) (nx' := _)
          ⟨.refl _, .refl _, .refl _, trivial⟩ ⟨⟨_, rfl, rfl, rfl, SubL.refl _⟩, trivial⟩ (Nat.le_refl _))
          ⟨(65072 - (r + 1)).toNat, by omega, k, r + 1, _, _, out, by omega, by omega, rfl, by omega, hout, rfl⟩
  · have hr : r = 65072 := by omega
    subst hr
    refine ex_run 30 ?_
    simp (maxSteps := 200000) only [push_cast, List.getD_cons_zero, List.getD_cons_succ, List.take_succ_cons, List.take_zero, List.drop_succ_cons, Nat.reduceLT, Nat.reduceLeDiff, Nat.reduceEqDiff, Nat.reduceAdd, Nat.reduceMul, Nat.reduceSub, Int.reduceToNat, Int.reduceLE, Int.reduceLT, Int.reduceEq, Int.reduceAdd, ↓reduceIte, decide_true, decide_false, and_self]
    rw [marks_end (by omega), List.append_nil] at hout
    rw [hout]
    exact ⟨_, [.own 0 0 0 allL.length], rfl, by simp [outA, outV, outC, mkS_env, mkS_tk, lkF, lkG, AV.closed], .refl _, ⟨_, rfl, i32s_closed _, rfl⟩⟩
end Go.Proofs.Ytpgjcmmbkgkhlaa
