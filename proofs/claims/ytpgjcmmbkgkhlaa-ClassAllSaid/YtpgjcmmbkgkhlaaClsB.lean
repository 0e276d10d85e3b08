/- class.Of and ref03.Class -/
import Derived.Test.YtpgjcmmbkgkhlaaClsA
set_option linter.unusedVariables false
set_option linter.unusedSimpArgs false
namespace Go.Proofs.Ytpgjcmmbkgkhlaa
open Go Go.Eng
theorem tab_len : tab.length = 43 := rfl
theorem rtab_len : rtab.length = 43 := rfl
def oS (x : Int) (i nx : Nat) : AS := mkS [(0, .int .i32 x), (2, .int .i64 0), (5, .own 5 1 0 43), (6, .int .i64 43), (7, .int .i64 i)] [(5, ⟨1, 4, rcells .i32 tab⟩)] nx
set_option maxRecDepth 100000 in
set_option maxHeartbeats 4000000 in
theorem Of_c (x : Int) (hx : -2147483648 ≤ x ∧ x ≤ 2147483647) : ACall Try.prog 12 [.int .i32 x] (.int .i64 (clsOf x)) none := by
  refine acall_intro none Try.func12 rfl (by kernel_rfl) (by simp [Try.f12]) ?_
  refine ex_run 30 ?_
  simp (maxSteps := 200000) only [Try.f12, push_cast, List.getD_cons_zero, List.getD_cons_succ, List.take_succ_cons, List.take_zero, List.drop_succ_cons, Nat.reduceLT, Nat.reduceLeDiff, Nat.reduceEqDiff, Nat.reduceAdd, Nat.reduceMul, Nat.reduceSub, Int.reduceToNat, Int.reduceLE, Int.reduceLT, Int.reduceEq, Int.reduceAdd, ↓reduceIte, decide_true, decide_false, and_self]
  refine call_intro spans_c (fun h => by cases h) ?_
  simp (maxSteps := 200000) only [push_cast, List.getD_cons_zero, List.getD_cons_succ, List.take_succ_cons, List.take_zero, List.drop_succ_cons, Nat.reduceLT, Nat.reduceLeDiff, Nat.reduceEqDiff, Nat.reduceAdd, Nat.reduceMul, Nat.reduceSub, Int.reduceToNat, Int.reduceLE, Int.reduceLT, Int.reduceEq, Int.reduceAdd, ↓reduceIte, decide_true, decide_false, and_self]
  refine run_keep (l' := [(0, .int .i32 x), (2, .int .i64 0), (5, .own 5 1 0 43), (6, .int .i64 43), (7, .int .i64 0)]) (t' := [(5, ⟨1, 4, rcells .i32 tab⟩)]) (nx' := _) ⟨.refl _, .refl _, .refl _, .refl _, .refl _, trivial⟩ ⟨⟨_, rfl, rfl, rfl, SubL.refl _⟩, trivial⟩ (Nat.le_refl _) ?_
  refine run_loop (fun n s => ∃ (i nx : Nat), i ≤ 43 ∧ n = 43 - i ∧ cls x (tab.drop i) = clsOf x ∧ s = oS x i nx) _ ⟨0, _, Nat.zero_le _, rfl, rfl, rfl⟩ ?_
  rintro n s ⟨i, nx, hi, rfl, hcl, rfl⟩
  unfold oS
  by_cases h : i < 43
  · have h' : (i : Int) < 43 := by omega
    have hl : (rcells .i32 tab).length = 172 := by rw [rcells_length, tab_len]
    have hrow := rcells_row .i32 tab i (by rw [tab_len]; exact h)
    have hle : i * 4 + 4 ≤ 172 := by omega
    have hdrop : tab.drop i = tab[i]'(by rw [tab_len]; exact h) :: tab.drop (i + 1) := List.drop_eq_getElem_cons _
    have hgood := rowGood_out (List.all_eq_true.1 tab_good (tab[i]'(by rw [tab_len]; exact h)) (List.getElem_mem _))
    have hgood' := List.all_eq_true.1 tab_good (tab[i]'(by rw [tab_len]; exact h)) (List.getElem_mem _)
    rw [hdrop] at hcl
    generalize tab[i]'(by rw [tab_len]; exact h) = q at hrow hgood hgood' hcl
    obtain ⟨a, b, c, d⟩ := q
    simp only [rcell] at hrow
    refine ex_run 30 ?_
    simp (maxSteps := 200000) only [h, h', hl, hrow, hle, push_cast, List.getD_cons_zero, List.getD_cons_succ, List.take_succ_cons, List.take_zero, List.drop_succ_cons, Nat.reduceLT, Nat.reduceLeDiff, Nat.reduceEqDiff, Nat.reduceAdd, Nat.reduceMul, Nat.reduceSub, Int.reduceToNat, Int.reduceLE, Int.reduceLT, Int.reduceEq, Int.reduceAdd, ↓reduceIte, decide_true, decide_false, and_self]
    have hback : ∀ (q4 : Nat), cls x (tab.drop (i + 1)) = clsOf x → ∃ m, m < 43 - i ∧ ∃ i' nx', i' ≤ 43 ∧ m = 43 - i' ∧ cls x (tab.drop i') = clsOf x ∧ oS x (i + 1) q4 = oS x i' nx' :=
      fun q4 e => ⟨43 - (i + 1), by omega, i + 1, q4, by omega, rfl, e, rfl⟩
    have w1 : IntKind.i64.wrap ((i : Int) + 1) = ((i + 1 : Nat) : Int) := by rw [wrap_i64 (by omega)]; omega
    have hskip : rowIn x (a, b, c, d) = false → cls x (tab.drop (i + 1)) = clsOf x := fun e => by
      rw [← hcl, cls, e]; rfl
    refine ⟨fun h3 => ⟨fun h4 => ?_, fun h4 => ?_⟩, fun h3 => ?_⟩
    · have hin : rowIn x (a, b, c, d) = true := rowIn_iff.2 ⟨h3, h4⟩
      have ho := rowV_out hgood' hin
      have e : clsOf x = c + d * (x - a) := by rw [← hcl, cls, hin]; rfl
      simp only [rowV] at ho hgood
      have v1 : IntKind.i32.wrap (x - a) = x - a := IntWalk.i32_in _ (by omega)
      have v2 : IntKind.i64.wrap (x - a) = x - a := wrap_i64 (by omega)
      have v3 : IntKind.i64.wrap (d * (x - a)) = d * (x - a) := wrap_i64 (by omega)
      have v4 : IntKind.i64.wrap (c + d * (x - a)) = c + d * (x - a) := wrap_i64 (by omega)
      exact ⟨_, _, rfl, rfl, .of_eq (by rw [v1, v2, v3, v4, e]; rfl), rfl⟩
    · rw [w1]
      refine run_back_le (le_mk (l' := [(0, .int .i32 x), (2, .int .i64 0), (5, .own 5 1 0 43), (6, .int .i64 43), (7, .int .i64 ((i + 1 : Nat) : Int))]) (t' := [(5, ⟨1, 4, rcells .i32 tab⟩)]) (nx' := _) ⟨.refl _, .refl _, .refl _, .refl _, .refl _, trivial⟩ ⟨⟨_, rfl, rfl, rfl, SubL.refl _⟩, trivial⟩ (Nat.le_refl _)) ?_
      exact hback _ (hskip (by rw [Bool.eq_false_iff]; intro hq; exact h4 (rowIn_iff.1 hq).2))
    · rw [w1]
      refine run_back_le (le_mk (l' := [(0, .int .i32 x), (2, .int .i64 0), (5, .own 5 1 0 43), (6, .int .i64 43), (7, .int .i64 ((i + 1 : Nat) : Int))]) (t' := [(5, ⟨1, 4, rcells .i32 tab⟩)]) (nx' := _) ⟨.refl _, .refl _, .refl _, .refl _, .refl _, trivial⟩ ⟨⟨_, rfl, rfl, rfl, SubL.refl _⟩, trivial⟩ (Nat.le_refl _)) ?_
      exact hback _ (hskip (by rw [Bool.eq_false_iff]; intro hq; exact h3 (rowIn_iff.1 hq).1))
  · have h' : ¬ (i : Int) < 43 := by omega
    refine ex_run 30 ?_
    simp (maxSteps := 200000) only [h', push_cast, List.getD_cons_zero, List.getD_cons_succ, List.take_succ_cons, List.take_zero, List.drop_succ_cons, Nat.reduceLT, Nat.reduceLeDiff, Nat.reduceEqDiff, Nat.reduceAdd, Nat.reduceMul, Nat.reduceSub, Int.reduceToNat, Int.reduceLE, Int.reduceLT, Int.reduceEq, Int.reduceAdd, ↓reduceIte, decide_true, decide_false, and_self]
    have e : clsOf x = 0 := by rw [← hcl, List.drop_of_length_le (by rw [tab_len]; omega)]; rfl
    exact ⟨_, _, rfl, rfl, .of_eq (by rw [e]; rfl), rfl⟩
end Go.Proofs.Ytpgjcmmbkgkhlaa
