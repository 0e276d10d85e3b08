/- class.All -/
import Derived.Test.YtpgjcmmbkgkhlaaClsE
set_option linter.unusedVariables false
set_option linter.unusedSimpArgs false
namespace Go.Proofs.Ytpgjcmmbkgkhlaa
open Go Go.Eng
theorem rowL_length (s : Row4) (k : Nat) : (rowL s k).length = k := by simp [rowL]
theorem allTo_len : ∀ i, i < 44 → (allTo i).length ≤ 145 := by decide +kernel
def aS (i g nx : Nat) (out : List Int) : AS := mkS [(0, .nilS), (1, .own 100 g 0 out.length), (5, .own 5 2 0 43), (6, .int .i64 43), (7, .int .i64 i)] [(5, ⟨2, 4, rcells .i32 tab⟩), (100, ⟨g, 1, i32s out⟩)] nx
def bS (i g gr k nx : Nat) (q : Row4) (out : List Int) : AS := mkS [(0, .nilS), (1, .own 100 g 0 out.length), (5, .own 5 2 0 43), (6, .int .i64 43), (7, .int .i64 i), (3, .addr 3 gr 0), (4, .int .i32 (q.1 + (k : Int)))] [(5, ⟨2, 4, rcells .i32 tab⟩), (100, ⟨g, 1, i32s out⟩), (3, ⟨gr, 1, rcell .i32 q⟩)] nx
set_option maxRecDepth 100000 in
set_option maxHeartbeats 4000000 in
theorem All_c : ACall Try.prog 15 [] (.own 0 0 0 allL.length) (some ⟨0, 1, i32s allL⟩) := by
  refine acall_intro (some 100) Try.func15 rfl (by kernel_rfl) (by simp [Try.f15]) ?_
  refine ex_run 30 ?_
  simp (maxSteps := 200000) only [Try.f15, push_cast, List.getD_cons_zero, List.getD_cons_succ, List.take_succ_cons, List.take_zero, List.drop_succ_cons, Nat.reduceLT, Nat.reduceLeDiff, Nat.reduceEqDiff, Nat.reduceAdd, Nat.reduceMul, Nat.reduceSub, Int.reduceToNat, Int.reduceLE, Int.reduceLT, Int.reduceEq, Int.reduceAdd, ↓reduceIte, decide_true, decide_false, and_self]
  refine call_intro spans_c (fun h => by cases h) ?_
  simp (maxSteps := 200000) only [push_cast, List.getD_cons_zero, List.getD_cons_succ, List.take_succ_cons, List.take_zero, List.drop_succ_cons, Nat.reduceLT, Nat.reduceLeDiff, Nat.reduceEqDiff, Nat.reduceAdd, Nat.reduceMul, Nat.reduceSub, Int.reduceToNat, Int.reduceLE, Int.reduceLT, Int.reduceEq, Int.reduceAdd, ↓reduceIte, decide_true, decide_false, and_self]
  refine run_lazy 1 100 1 rfl ?_
  refine run_keep (l' := [(0, .nilS), (1, .own 100 5 0 0), (5, .own 5 2 0 43), (6, .int .i64 43), (7, .int .i64 0)]) (t' := [(5, ⟨2, 4, rcells .i32 tab⟩), (100, ⟨5, 1, []⟩)]) (nx' := _) ⟨.refl _, .refl _, .refl _, .refl _, .refl _, trivial⟩ ⟨⟨_, rfl, rfl, rfl, SubL.refl _⟩, ⟨_, rfl, rfl, rfl, SubL.refl _⟩, trivial⟩ (Nat.le_refl _) ?_
  refine run_loop (fun n s => ∃ (i g nx : Nat), i ≤ 43 ∧ n = 43 - i ∧ s = aS i g nx (allTo i)) _ ⟨0, _, _, Nat.zero_le _, rfl, rfl⟩ ?_
  rintro n s ⟨i, g, nx, hi, rfl, rfl⟩
  unfold aS
  by_cases h : i < 43
  · have h' : (i : Int) < 43 := by omega
    have hl : (rcells .i32 tab).length = 172 := by rw [rcells_length, tab_len]
    have hrow := rcells_row .i32 tab i (by rw [tab_len]; exact h)
    have hle : i * 4 + 4 ≤ 172 := by omega
    have hall := allTo_succ i (by rw [tab_len]; exact h)
    have hgood := rowGood_out (List.all_eq_true.1 tab_good (tab[i]'(by rw [tab_len]; exact h)) (List.getElem_mem _))
    generalize tab[i]'(by rw [tab_len]; exact h) = q at hrow hgood hall
    obtain ⟨a, b, c, d⟩ := q
    simp only [rcell] at hrow
    refine ex_run 30 ?_
    simp (maxSteps := 200000) only [h, h', hl, hrow, hle, push_cast, List.getD_cons_zero, List.getD_cons_succ, List.take_succ_cons, List.take_zero, List.drop_succ_cons, Nat.reduceLT, Nat.reduceLeDiff, Nat.reduceEqDiff, Nat.reduceAdd, Nat.reduceMul, Nat.reduceSub, Int.reduceToNat, Int.reduceLE, Int.reduceLT, Int.reduceEq, Int.reduceAdd, ↓reduceIte, decide_true, decide_false, and_self]
    refine run_keep (l' := [(0, .nilS), (1, .own 100 g 0 (allTo i).length), (5, .own 5 2 0 43), (6, .int .i64 43), (7, .int .i64 i), (3, .addr 3 (nx + 1 + 1 + 1) 0), (4, .int .i32 (a + ((0 : Nat) : Int)))])
      (t' := [(5, ⟨2, 4, rcells .i32 tab⟩), (100, ⟨g, 1, i32s (allTo i)⟩), (3, ⟨nx + 1 + 1 + 1, 1, rcell .i32 (a, b, c, d)⟩)]) (nx' := _) ⟨.refl _, .refl _, .refl _, .refl _, .refl _, .refl _, .of_eq (congrArg (AV.int .i32) (by omega)), trivial⟩ ⟨⟨_, rfl, rfl, rfl, SubL.refl _⟩, ⟨_, rfl, rfl, rfl, SubL.refl _⟩, ⟨_, rfl, rfl, rfl, SubL.refl _⟩, trivial⟩ (Nat.le_refl _) ?_
    generalize nx + 1 + 1 + 1 = gr
    refine run_loop (fun n s => ∃ (k g nx : Nat), k ≤ rowN (a, b, c, d) ∧ n = rowN (a, b, c, d) - k ∧ s = bS i g gr k nx (a, b, c, d) (allTo i ++ rowL (a, b, c, d) k)) _ ⟨0, g, nx + 1 + 4 + 3, Nat.zero_le _, rfl, by simp [bS, rowL]⟩ ?_
    rintro n s ⟨k, g, nx, hk, rfl, rfl⟩
    have hN : rowN (a, b, c, d) = (b + 1 - a).toNat := rfl
    unfold bS
    simp only [rcell]
    by_cases h2 : k < rowN (a, b, c, d)
    · have h2' : a + (k : Int) ≤ b := by omega
      refine ex_run 30 ?_
      simp (maxSteps := 200000) only [h2', push_cast, List.getD_cons_zero, List.getD_cons_succ, List.take_succ_cons, List.take_zero, List.drop_succ_cons, Nat.reduceLT, Nat.reduceLeDiff, Nat.reduceEqDiff, Nat.reduceAdd, Nat.reduceMul, Nat.reduceSub, Int.reduceToNat, Int.reduceLE, Int.reduceLT, Int.reduceEq, Int.reduceAdd, ↓reduceIte, decide_true, decide_false, and_self]
      have hlen : (allTo i ++ rowL (a, b, c, d) k).length ≤ 145 := by
        have h5 := allTo_len (i + 1) (by omega)
        rw [hall] at h5
        simp only [List.length_append, rowL_length] at h5 ⊢
        omega
      refine ⟨by omega, ?_⟩
      have w1 : IntKind.i32.wrap (a + (k : Int) + 1) = a + ((k + 1 : Nat) : Int) := by rw [IntWalk.i32_in _ (by simp only at hgood; omega)]; omega
      rw [w1]
      refine run_back_le (le_mk (l' := [(0, .nilS), (1, .own 100 (nx + 4 + 1 + 1 + 1) 0 (allTo i ++ rowL (a, b, c, d) (k + 1)).length), (5, .own 5 2 0 43), (6, .int .i64 43), (7, .int .i64 i), (3, .addr 3 gr 0), (4, .int .i32 (a + ((k + 1 : Nat) : Int)))])
        (t' := [(5, ⟨2, 4, rcells .i32 tab⟩), (100, ⟨nx + 4 + 1 + 1 + 1, 1, i32s (allTo i ++ rowL (a, b, c, d) (k + 1))⟩), (3, ⟨gr, 1, rcell .i32 (a, b, c, d)⟩)]) (nx' := _)
        ⟨.refl _, .of_eq (congrArg (AV.own 100 _ 0) (by simp only [List.length_append, rowL_length]; omega)), .refl _, .refl _, .refl _, .refl _, .refl _, trivial⟩
        ⟨⟨_, rfl, rfl, rfl, SubL.refl _⟩, ⟨_, rfl, rfl, rfl, by rw [rowL_succ, ← List.append_assoc]; exact SubL.refl _⟩, ⟨_, rfl, rfl, rfl, SubL.refl _⟩, trivial⟩ (Nat.le_refl _)) ?_
      exact ⟨rowN (a, b, c, d) - (k + 1), by omega, k + 1, _, _, by omega, rfl, rfl⟩
    · have h2' : ¬ a + (k : Int) ≤ b := by omega
      refine ex_run 30 ?_
      simp (maxSteps := 200000) only [h2', push_cast, List.getD_cons_zero, List.getD_cons_succ, List.take_succ_cons, List.take_zero, List.drop_succ_cons, Nat.reduceLT, Nat.reduceLeDiff, Nat.reduceEqDiff, Nat.reduceAdd, Nat.reduceMul, Nat.reduceSub, Int.reduceToNat, Int.reduceLE, Int.reduceLT, Int.reduceEq, Int.reduceAdd, ↓reduceIte, decide_true, decide_false, and_self]
      have ek : k = rowN (a, b, c, d) := by omega
      subst ek
      have w1 : IntKind.i64.wrap ((i : Int) + 1) = ((i + 1 : Nat) : Int) := by rw [wrap_i64 (by omega)]; omega
      rw [w1, ← hall]
      refine run_back_le (le_mk (l' := [(0, .nilS), (1, .own 100 g 0 (allTo (i + 1)).length), (5, .own 5 2 0 43), (6, .int .i64 43), (7, .int .i64 ((i + 1 : Nat) : Int))]) (t' := [(5, ⟨2, 4, rcells .i32 tab⟩), (100, ⟨g, 1, i32s (allTo (i + 1))⟩)]) (nx' := _)
        ⟨.refl _, .refl _, .refl _, .refl _, .refl _, trivial⟩ ⟨⟨_, rfl, rfl, rfl, SubL.refl _⟩, ⟨_, rfl, rfl, rfl, SubL.refl _⟩, trivial⟩ (Nat.le_refl _)) ?_
      exact ⟨43 - (i + 1), by omega, i + 1, _, _, by omega, rfl, rfl⟩
  · have h' : ¬ (i : Int) < 43 := by omega
    refine ex_run 30 ?_
    simp (maxSteps := 200000) only [h', push_cast, List.getD_cons_zero, List.getD_cons_succ, List.take_succ_cons, List.take_zero, List.drop_succ_cons, Nat.reduceLT, Nat.reduceLeDiff, Nat.reduceEqDiff, Nat.reduceAdd, Nat.reduceMul, Nat.reduceSub, Int.reduceToNat, Int.reduceLE, Int.reduceLT, Int.reduceEq, Int.reduceAdd, ↓reduceIte, decide_true, decide_false, and_self]
    have e : allTo i = allL := by rw [← allTo_full]; congr 1; omega
    rw [e]
    exact ⟨_, [.own 0 0 0 allL.length], rfl, by simp [outA, outV, outC, mkS_env, mkS_tk, lkF, lkG, AV.closed], .refl _, ⟨_, rfl, i32s_closed _, rfl⟩⟩
end Go.Proofs.Ytpgjcmmbkgkhlaa
