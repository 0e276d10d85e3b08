/- ref03.Class, class.Mark, law03.answers -/
import Derived.Test.YtpgjcmmbkgkhlaaClsB
set_option linter.unusedVariables false
set_option linter.unusedSimpArgs false
namespace Go.Proofs.Ytpgjcmmbkgkhlaa
open Go Go.Eng
def rS (x : Int) (i nx : Nat) : AS := mkS [(0, .int .i32 x), (2, .int .i64 0), (3, .own 5 1 0 43), (4, .int .i64 i)] [(5, ⟨1, 4, rcells .i64 rtab⟩)] nx
set_option maxRecDepth 100000 in
set_option maxHeartbeats 4000000 in
theorem Class_c (x : Int) (hx : -2147483648 ≤ x ∧ x ≤ 2147483647) : ACall Try.prog 13 [.int .i32 x] (.int .i64 (clsOf x)) none := by
  have hx0 : IntKind.i64.wrap x = x := wrap_i64 (by omega)
  refine acall_intro none Try.func13 rfl (by kernel_rfl) (by simp [Try.f13]) ?_
  refine ex_run 30 ?_
  simp (maxSteps := 200000) only [Try.f13, push_cast, List.getD_cons_zero, List.getD_cons_succ, List.take_succ_cons, List.take_zero, List.drop_succ_cons, Nat.reduceLT, Nat.reduceLeDiff, Nat.reduceEqDiff, Nat.reduceAdd, Nat.reduceMul, Nat.reduceSub, Int.reduceToNat, Int.reduceLE, Int.reduceLT, Int.reduceEq, Int.reduceAdd, ↓reduceIte, decide_true, decide_false, and_self]
  refine call_intro rspans_c (fun h => by cases h) ?_
  simp (maxSteps := 200000) only [push_cast, List.getD_cons_zero, List.getD_cons_succ, List.take_succ_cons, List.take_zero, List.drop_succ_cons, Nat.reduceLT, Nat.reduceLeDiff, Nat.reduceEqDiff, Nat.reduceAdd, Nat.reduceMul, Nat.reduceSub, Int.reduceToNat, Int.reduceLE, Int.reduceLT, Int.reduceEq, Int.reduceAdd, ↓reduceIte, decide_true, decide_false, and_self]
  refine run_keep (l' := [(0, .int .i32 x), (2, .int .i64 0), (3, .own 5 1 0 43), (4, .int .i64 0)]) (t' := [(5, ⟨1, 4, rcells .i64 rtab⟩)]) (nx' := _) ⟨.refl _, .refl _, .refl _, .refl _, trivial⟩ ⟨⟨_, rfl, rfl, rfl, SubL.refl _⟩, trivial⟩ (Nat.le_refl _) ?_
  refine run_loop (fun n s => ∃ (i nx : Nat), i ≤ 43 ∧ n = 43 - i ∧ cls x (rtab.drop i) = clsOf x ∧ s = rS x i nx) _ ⟨0, _, Nat.zero_le _, rfl, cls_eq x, rfl⟩ ?_
  rintro n s ⟨i, nx, hi, rfl, hcl, rfl⟩
  unfold rS
  by_cases h : i < 43
  · have h' : (i : Int) < 43 := by omega
    have hl : (rcells .i64 rtab).length = 172 := by rw [rcells_length, rtab_len]
    have hr0 := rcells_get .i64 rtab i 0 (by rw [rtab_len]; exact h) (by omega)
    have hr1 := rcells_get .i64 rtab i 1 (by rw [rtab_len]; exact h) (by omega)
    have hr2 := rcells_get .i64 rtab i 2 (by rw [rtab_len]; exact h) (by omega)
    have hr3 := rcells_get .i64 rtab i 3 (by rw [rtab_len]; exact h) (by omega)
    have hle0 : i * 4 < 172 := by omega
    have hle1 : i * 4 + 1 < 172 := by omega
    have hle2 : i * 4 + 2 < 172 := by omega
    have hle3 : i * 4 + 3 < 172 := by omega
    have hdrop : rtab.drop i = rtab[i]'(by rw [rtab_len]; exact h) :: rtab.drop (i + 1) := List.drop_eq_getElem_cons _
    have hgood := rowGood_out (List.all_eq_true.1 rtab_good (rtab[i]'(by rw [rtab_len]; exact h)) (List.getElem_mem _))
    have hgood' := List.all_eq_true.1 rtab_good (rtab[i]'(by rw [rtab_len]; exact h)) (List.getElem_mem _)
    rw [hdrop] at hcl
    generalize rtab[i]'(by rw [rtab_len]; exact h) = q at hr0 hr1 hr2 hr3 hgood hgood' hcl
    obtain ⟨a, b, c, d⟩ := q
    have hin' : i < 43 := h
    simp only [rcell, List.getD_cons_zero, List.getD_cons_succ, Nat.add_zero] at hr0 hr1 hr2 hr3
    refine ex_run 30 ?_
    simp (maxSteps := 200000) only [h, h', hl, hr0, hr1, hr2, hr3, hle0, hle1, hle2, hle3, hx0, push_cast, List.getD_cons_zero, List.getD_cons_succ, List.take_succ_cons, List.take_zero, List.drop_succ_cons, Nat.reduceLT, Nat.reduceLeDiff, Nat.reduceEqDiff, Nat.reduceAdd, Nat.reduceMul, Nat.reduceSub, Int.reduceToNat, Int.reduceLE, Int.reduceLT, Int.reduceEq, Int.reduceAdd, ↓reduceIte, decide_true, decide_false, and_self]
    have hback : ∀ (q4 : Nat), cls x (rtab.drop (i + 1)) = clsOf x → ∃ m, m < 43 - i ∧ ∃ i' nx', i' ≤ 43 ∧ m = 43 - i' ∧ cls x (rtab.drop i') = clsOf x ∧ rS x (i + 1) q4 = rS x i' nx' :=
      fun q4 e => ⟨43 - (i + 1), by omega, i + 1, q4, by omega, rfl, e, rfl⟩
    have w1 : IntKind.i64.wrap ((i : Int) + 1) = ((i + 1 : Nat) : Int) := by rw [wrap_i64 (by omega)]; omega
    have hskip : rowIn x (a, b, c, d) = false → cls x (rtab.drop (i + 1)) = clsOf x := fun e => by
      rw [← hcl, cls, e]; rfl
    refine ⟨fun h3 => ⟨fun h4 => ⟨by kernel_rfl, by kernel_rfl, ?_⟩, fun h4 => ?_⟩, fun h3 => ?_⟩
    · have hin : rowIn x (a, b, c, d) = true := rowIn_iff.2 ⟨h3, h4⟩
      have ho := rowV_out hgood' hin
      have e : clsOf x = c + d * (x - a) := by rw [← hcl, cls, hin]; rfl
      simp only [rowV] at ho hgood
      have v2 : IntKind.i64.wrap (x - a) = x - a := wrap_i64 (by omega)
      have v3 : IntKind.i64.wrap (d * (x - a)) = d * (x - a) := wrap_i64 (by omega)
      have v4 : IntKind.i64.wrap (c + d * (x - a)) = c + d * (x - a) := wrap_i64 (by omega)
      exact ⟨_, _, rfl, rfl, .of_eq (by rw [v2, v3, v4, e]; rfl), rfl⟩
    · rw [w1]
      refine run_back_le (le_mk (l' := [(0, .int .i32 x), (2, .int .i64 0), (3, .own 5 1 0 43), (4, .int .i64 ((i + 1 : Nat) : Int))]) (t' := [(5, ⟨1, 4, rcells .i64 rtab⟩)]) (nx' := _) ⟨.refl _, .refl _, .refl _, .refl _, trivial⟩ ⟨⟨_, rfl, rfl, rfl, SubL.refl _⟩, trivial⟩ (Nat.le_refl _)) ?_
      exact hback _ (hskip (by rw [Bool.eq_false_iff]; intro hq; exact h4 (rowIn_iff.1 hq).2))
    · rw [w1]
      refine run_back_le (le_mk (l' := [(0, .int .i32 x), (2, .int .i64 0), (3, .own 5 1 0 43), (4, .int .i64 ((i + 1 : Nat) : Int))]) (t' := [(5, ⟨1, 4, rcells .i64 rtab⟩)]) (nx' := _) ⟨.refl _, .refl _, .refl _, .refl _, trivial⟩ ⟨⟨_, rfl, rfl, rfl, SubL.refl _⟩, trivial⟩ (Nat.le_refl _)) ?_
      exact hback _ (hskip (by rw [Bool.eq_false_iff]; intro hq; exact h3 (rowIn_iff.1 hq).1))
  · have h' : ¬ (i : Int) < 43 := by omega
    refine ex_run 30 ?_
    simp (maxSteps := 200000) only [h', push_cast, List.getD_cons_zero, List.getD_cons_succ, List.take_succ_cons, List.take_zero, List.drop_succ_cons, Nat.reduceLT, Nat.reduceLeDiff, Nat.reduceEqDiff, Nat.reduceAdd, Nat.reduceMul, Nat.reduceSub, Int.reduceToNat, Int.reduceLE, Int.reduceLT, Int.reduceEq, Int.reduceAdd, ↓reduceIte, decide_true, decide_false, and_self]
    have e : clsOf x = 0 := by rw [← hcl, List.drop_of_length_le (by rw [rtab_len]; omega)]; rfl
    exact ⟨_, _, rfl, rfl, .of_eq (by rw [e]; rfl), rfl⟩
set_option maxRecDepth 100000 in
theorem Mark_c (x : Int) (hx : -2147483648 ≤ x ∧ x ≤ 2147483647) : ACall Try.prog 14 [.int .i32 x] (.bool (decide (0 < clsOf x))) none := by
  refine acall_intro none Try.func14 rfl (by kernel_rfl) (by simp [Try.f14]) ?_
  refine ex_run 30 ?_
  simp (maxSteps := 200000) only [Try.f14, push_cast, List.getD_cons_zero, List.getD_cons_succ, List.take_succ_cons, List.take_zero, List.drop_succ_cons, Nat.reduceLT, Nat.reduceLeDiff, Nat.reduceEqDiff, Nat.reduceAdd, Nat.reduceMul, Nat.reduceSub, Int.reduceToNat, Int.reduceLE, Int.reduceLT, Int.reduceEq, Int.reduceAdd, ↓reduceIte, decide_true, decide_false, and_self]
  refine call_intro (Of_c x hx) (fun h => by cases h) ?_
  simp (maxSteps := 200000) only [push_cast, List.getD_cons_zero, List.getD_cons_succ, List.take_succ_cons, List.take_zero, List.drop_succ_cons, Nat.reduceLT, Nat.reduceLeDiff, Nat.reduceEqDiff, Nat.reduceAdd, Nat.reduceMul, Nat.reduceSub, Int.reduceToNat, Int.reduceLE, Int.reduceLT, Int.reduceEq, Int.reduceAdd, ↓reduceIte, decide_true, decide_false, and_self]
  exact ⟨_, _, rfl, rfl, .refl _, rfl⟩
set_option maxRecDepth 100000 in
theorem answers3_c : ACall Try.prog 11 [] (.bool true) none := by
  have e1 : clsOf 769 = 230 := by decide +kernel
  have e2 : decide (0 < clsOf 837) = true := by decide +kernel
  refine acall_intro none Try.func11 rfl (by kernel_rfl) (by simp [Try.f11]) ?_
  refine ex_run 30 ?_
  simp (maxSteps := 200000) only [Try.f11, push_cast, List.getD_cons_zero, List.getD_cons_succ, List.take_succ_cons, List.take_zero, List.drop_succ_cons, Nat.reduceLT, Nat.reduceLeDiff, Nat.reduceEqDiff, Nat.reduceAdd, Nat.reduceMul, Nat.reduceSub, Int.reduceToNat, Int.reduceLE, Int.reduceLT, Int.reduceEq, Int.reduceAdd, ↓reduceIte, decide_true, decide_false, and_self]
  refine call_intro (Of_c 769 (by omega)) (fun h => by cases h) ?_
  rw [e1]
  simp (maxSteps := 200000) only [push_cast, List.getD_cons_zero, List.getD_cons_succ, List.take_succ_cons, List.take_zero, List.drop_succ_cons, Nat.reduceLT, Nat.reduceLeDiff, Nat.reduceEqDiff, Nat.reduceAdd, Nat.reduceMul, Nat.reduceSub, Int.reduceToNat, Int.reduceLE, Int.reduceLT, Int.reduceEq, Int.reduceAdd, ↓reduceIte, decide_true, decide_false, and_self]
  refine call_intro (Mark_c 837 (by omega)) (fun h => by cases h) ?_
  rw [e2]
  simp (maxSteps := 200000) only [push_cast, List.getD_cons_zero, List.getD_cons_succ, List.take_succ_cons, List.take_zero, List.drop_succ_cons, Nat.reduceLT, Nat.reduceLeDiff, Nat.reduceEqDiff, Nat.reduceAdd, Nat.reduceMul, Nat.reduceSub, Int.reduceToNat, Int.reduceLE, Int.reduceLT, Int.reduceEq, Int.reduceAdd, ↓reduceIte, decide_true, decide_false, and_self]
  exact ⟨_, _, rfl, rfl, .refl _, rfl⟩
end Go.Proofs.Ytpgjcmmbkgkhlaa
