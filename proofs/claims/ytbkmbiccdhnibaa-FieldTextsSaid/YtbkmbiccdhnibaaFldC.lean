/- field.one -/
import Derived.Test.YtbkmbiccdhnibaaFldB
set_option linter.unusedVariables false
set_option linter.unusedSimpArgs false
namespace Go.Proofs.Ytbkmbiccdhnibaa
open Go Go.Eng
theorem Clone_n (l : List Int) (n : Nat) (hn : l.length = n) (hl : n ≤ 140737488355328) : ACall Try.prog 51 [.sl n (u8s l)] (.sl n (u8s l)) none := by
  subst hn; exact Clone_c l hl
def oneR (l : List Int) : AV := .tup [.agg (sCells ((oneOf l).1, (oneOf l).2.1)), .int .i64 (oneOf l).2.2.1, .int .i64 (oneOf l).2.2.2]
def onS (l : List Int) (c : Int) (n nx : Nat) : AS := mkS [(0, .sl l.length (u8s l)), (2, .addr 2 0 0), (3, .int .i64 n), (4, .int .i64 0)] [(2, ⟨0, 1, [.int .u8 c, .nilS]⟩)] nx
set_option maxRecDepth 100000 in
set_option maxHeartbeats 4000000 in
theorem one_c (l : List Int) (hl : l.length ≤ 140737488355328) : ACall Try.prog 49 [.sl l.length (u8s l)] (oneR l) none := by
  refine acall_intro none Try.func49 rfl (by kernel_rfl) (by simp [Try.f49]) ?_
  have hbad0 : (l.length < 1 ∨ l.getD 0 0 ≠ 31) → oneR l = .tup [.agg [.int .u8 0, .sl 0 []], .int .i64 (-1), .int .i64 0] := fun h => by
    unfold oneR oneOf; rw [if_pos h]; rfl
  have hbad1 : ¬ (l.length < 1 ∨ l.getD 0 0 ≠ 31) → (l.length < 2 ∨ codeB (l.getD 1 0) = false) → oneR l = .tup [.agg [.int .u8 0, .sl 0 []], .int .i64 (-1), .int .i64 1] := fun h h2 => by
    unfold oneR oneOf; rw [if_neg h, if_pos h2]; rfl
  by_cases h0 : l.length < 1
  · rw [hbad0 (.inl h0)]
    have h0' : (l.length : Int) < 1 := by omega
    refine ex_run 30 ?_
    simp (maxSteps := 200000) only [Try.f49, h0', push_cast, List.getD_cons_zero, List.getD_cons_succ, List.take_succ_cons, List.take_zero, List.drop_succ_cons, Nat.reduceLT, Nat.reduceLeDiff, Nat.reduceEqDiff, Nat.reduceAdd, Nat.reduceMul, Nat.reduceSub, Int.reduceToNat, Int.reduceLE, Int.reduceLT, Int.reduceEq, Int.reduceAdd, ↓reduceIte, decide_true, decide_false, and_self]
    exact ⟨[.agg [.int .u8 0, .nilS], .int .i64 (-1), .int .i64 0], [.agg [.int .u8 0, .nilS], .int .i64 (-1), .int .i64 0], by kernel_rfl, by simp [outA, outV, outL, outC, AV.closed], sub_tup ⟨sub_agg ⟨.refl _, .nil, trivial⟩, .refl _, .refl _, trivial⟩, rfl⟩
  · have h0' : ¬ (l.length : Int) < 1 := by omega
    have h0p : 0 < l.length := by omega
    have g0 := u8s_getD l 0 h0p
    have i0 : (0 : Int) < (l.length : Int) := by omega
    by_cases h1 : l.getD 0 0 = 31
    · have hn0 : ¬ (l.length < 1 ∨ l.getD 0 0 ≠ 31) := fun h => h.elim h0 (fun h => h h1)
      by_cases h2 : l.length < 2
      · rw [hbad1 hn0 (.inl h2)]
        have h2' : (l.length : Int) < 2 := by omega
        refine ex_run 30 ?_
        simp (maxSteps := 200000) only [Try.f49, h0', h0p, i0, g0, h1, h2', push_cast, List.getD_cons_zero, List.getD_cons_succ, List.take_succ_cons, List.take_zero, List.drop_succ_cons, Nat.reduceLT, Nat.reduceLeDiff, Nat.reduceEqDiff, Nat.reduceAdd, Nat.reduceMul, Nat.reduceSub, Int.reduceToNat, Int.reduceLE, Int.reduceLT, Int.reduceEq, Int.reduceAdd, ↓reduceIte, decide_true, decide_false, and_self]
        exact ⟨[.agg [.int .u8 0, .nilS], .int .i64 (-1), .int .i64 1], [.agg [.int .u8 0, .nilS], .int .i64 (-1), .int .i64 1], by kernel_rfl, by simp [outA, outV, outL, outC, AV.closed], sub_tup ⟨sub_agg ⟨.refl _, .nil, trivial⟩, .refl _, .refl _, trivial⟩, rfl⟩
      · have h2' : ¬ (l.length : Int) < 2 := by omega
        have g1 := u8s_getD l 1 (by omega)
        have i1 : (1 : Int) < (l.length : Int) := by omega
        have n1 : 1 < l.length := by omega
        cases hc : codeB (l.getD 1 0) with
        | false =>
          rw [hbad1 hn0 (.inr hc)]
          refine ex_run 30 ?_
          simp (maxSteps := 200000) only [Try.f49, h0', h0p, i0, g0, h1, h2', i1, n1, g1, push_cast, List.getD_cons_zero, List.getD_cons_succ, List.take_succ_cons, List.take_zero, List.drop_succ_cons, Nat.reduceLT, Nat.reduceLeDiff, Nat.reduceEqDiff, Nat.reduceAdd, Nat.reduceMul, Nat.reduceSub, Int.reduceToNat, Int.reduceLE, Int.reduceLT, Int.reduceEq, Int.reduceAdd, ↓reduceIte, decide_true, decide_false, and_self]
          refine call_intro (Code_c _) (fun h => by cases h) ?_
          rw [hc]
          simp (maxSteps := 200000) only [push_cast, List.getD_cons_zero, List.getD_cons_succ, List.take_succ_cons, List.take_zero, List.drop_succ_cons, Nat.reduceLT, Nat.reduceLeDiff, Nat.reduceEqDiff, Nat.reduceAdd, Nat.reduceMul, Nat.reduceSub, Int.reduceToNat, Int.reduceLE, Int.reduceLT, Int.reduceEq, Int.reduceAdd, ↓reduceIte, decide_true, decide_false, and_self]
          exact ⟨[.agg [.int .u8 0, .nilS], .int .i64 (-1), .int .i64 1], [.agg [.int .u8 0, .nilS], .int .i64 (-1), .int .i64 1], by kernel_rfl, by simp [outA, outV, outL, outC, AV.closed], sub_tup ⟨sub_agg ⟨.refl _, .nil, trivial⟩, .refl _, .refl _, trivial⟩, rfl⟩
        | true =>
          refine ex_run 30 ?_
          simp (maxSteps := 200000) only [Try.f49, h0', h0p, i0, g0, h1, h2', i1, n1, g1, push_cast, List.getD_cons_zero, List.getD_cons_succ, List.take_succ_cons, List.take_zero, List.drop_succ_cons, Nat.reduceLT, Nat.reduceLeDiff, Nat.reduceEqDiff, Nat.reduceAdd, Nat.reduceMul, Nat.reduceSub, Int.reduceToNat, Int.reduceLE, Int.reduceLT, Int.reduceEq, Int.reduceAdd, ↓reduceIte, decide_true, decide_false, and_self]
          refine call_intro (Code_c _) (fun h => by cases h) ?_
          rw [hc]
          simp (maxSteps := 200000) only [h0', h0p, i0, g0, h1, h2', i1, n1, g1, push_cast, List.getD_cons_zero, List.getD_cons_succ, List.take_succ_cons, List.take_zero, List.drop_succ_cons, Nat.reduceLT, Nat.reduceLeDiff, Nat.reduceEqDiff, Nat.reduceAdd, Nat.reduceMul, Nat.reduceSub, Int.reduceToNat, Int.reduceLE, Int.reduceLT, Int.reduceEq, Int.reduceAdd, ↓reduceIte, decide_true, decide_false, and_self]
          refine run_keep (l' := [(0, .sl l.length (u8s l)), (2, .addr 2 0 0), (3, .int .i64 2), (4, .int .i64 0)]) (t' := [(2, ⟨0, 1, [.int .u8 (l.getD 1 0), .nilS]⟩)]) (nx' := _) ⟨.refl _, .refl _, .refl _, .refl _, trivial⟩ ⟨⟨_, rfl, rfl, rfl, SubL.refl _⟩, trivial⟩ (Nat.le_refl _) ?_
          refine run_loop (fun v s => ∃ (n nx : Nat), 2 ≤ n ∧ n ≤ l.length ∧ v = l.length - n ∧ (∀ c ∈ (l.drop 2).take (n - 2), freeB c = true) ∧ s = onS l (l.getD 1 0) n nx) _ ⟨2, _, by omega, by omega, rfl, by simp, rfl⟩ ?_
          rintro v s ⟨n, nx, hn2, hnl, rfl, hall, rfl⟩
          unfold onS
          have hk2 : (2 : Int) ≤ (n : Int) := by omega
          have hkl : (n : Int) ≤ (l.length : Int) := by omega
          have hnl' : n ≤ l.length := hnl
          have hml : (List.drop 2 (List.take n l)).length = n - 2 := by simp; omega
          by_cases h3 : n < l.length
          · have gn := u8s_getD l n h3
            have hw : IntKind.i64.wrap ((n : Int) + 1) = ((n + 1 : Nat) : Int) := by rw [wrap_i64 (by omega)]; omega
            refine ex_run 30 ?_
            simp (maxSteps := 200000) only [h3, gn, h0p, push_cast, List.getD_cons_zero, List.getD_cons_succ, List.take_succ_cons, List.take_zero, List.drop_succ_cons, Nat.reduceLT, Nat.reduceLeDiff, Nat.reduceEqDiff, Nat.reduceAdd, Nat.reduceMul, Nat.reduceSub, Int.reduceToNat, Int.reduceLE, Int.reduceLT, Int.reduceEq, Int.reduceAdd, ↓reduceIte, decide_true, decide_false, and_self]
            refine call_intro (Free_c _) (fun h => by cases h) ?_
            cases hf : freeB (l.getD n 0) with
            | true =>
              simp (maxSteps := 200000) only [hw, push_cast, List.getD_cons_zero, List.getD_cons_succ, List.take_succ_cons, List.take_zero, List.drop_succ_cons, Nat.reduceLT, Nat.reduceLeDiff, Nat.reduceEqDiff, Nat.reduceAdd, Nat.reduceMul, Nat.reduceSub, Int.reduceToNat, Int.reduceLE, Int.reduceLT, Int.reduceEq, Int.reduceAdd, ↓reduceIte, decide_true, decide_false, and_self]
              refine run_back_le (le_mk (l' := [(0, .sl l.length (u8s l)), (2, .addr 2 0 0), (3, .int .i64 ((n + 1 : Nat) : Int)), (4, .int .i64 0)]) (t' := [(2, ⟨0, 1, [.int .u8 (l.getD 1 0), .nilS]⟩)]) (nx' := _) ⟨.refl _, .refl _, .of_eq (congrArg (AV.int .i64) (by omega)), .refl _, trivial⟩ ⟨⟨_, rfl, rfl, rfl, SubL.refl _⟩, trivial⟩ (Nat.le_refl _)) ?_
              refine ⟨l.length - (n + 1), by omega, n + 1, _, by omega, by omega, rfl, ?_, rfl⟩
              rw [show n + 1 - 2 = (n - 2) + 1 by omega]
              refine take_succ_all (by rw [List.length_drop]; omega) hall ?_
              rw [List.getD_eq_getElem?_getD, List.getElem?_drop, show 2 + (n - 2) = n by omega, ← List.getD_eq_getElem?_getD]; exact hf
            | false =>
              have hmid : oneR l = .tup [.agg [.int .u8 (l.getD 1 0), .sl (n - 2) (u8s (List.drop 2 (List.take n l)))], .int .i64 n, .int .i64 0] := by
                have htw : (l.drop 2).takeWhile freeB = (l.drop 2).take (n - 2) := takeWhile_eq (by rw [List.length_drop]; omega) hall (.inr (by rw [List.getD_eq_getElem?_getD, List.getElem?_drop, show 2 + (n - 2) = n by omega, ← List.getD_eq_getElem?_getD]; exact hf))
                have hdt : List.drop 2 (List.take n l) = (l.drop 2).take (n - 2) := List.drop_take
                have hlen : ((l.drop 2).take (n - 2)).length = n - 2 := by rw [List.length_take, List.length_drop]; omega
                unfold oneR oneOf
                rw [if_neg hn0, if_neg (fun h => h.elim h2 (fun h => by rw [hc] at h; cases h)), htw, hdt]
                simp only [sCells, hlen]
                congr 3
                simp only [List.cons.injEq, AV.int.injEq, true_and, and_true]
                omega
              simp (maxSteps := 200000) only [h3, gn, h0p, hk2, hkl, hnl', push_cast, List.getD_cons_zero, List.getD_cons_succ, List.take_succ_cons, List.take_zero, List.drop_succ_cons, Nat.reduceLT, Nat.reduceLeDiff, Nat.reduceEqDiff, Nat.reduceAdd, Nat.reduceMul, Nat.reduceSub, Int.reduceToNat, Int.reduceLE, Int.reduceLT, Int.reduceEq, Int.reduceAdd, ↓reduceIte, decide_true, decide_false, and_self]
              refine call_intro (Clone_n _ (n - 2) hml (by omega)) (fun h => by cases h) ?_
              simp (maxSteps := 200000) only [push_cast, List.getD_cons_zero, List.getD_cons_succ, List.take_succ_cons, List.take_zero, List.drop_succ_cons, Nat.reduceLT, Nat.reduceLeDiff, Nat.reduceEqDiff, Nat.reduceAdd, Nat.reduceMul, Nat.reduceSub, Int.reduceToNat, Int.reduceLE, Int.reduceLT, Int.reduceEq, Int.reduceAdd, ↓reduceIte, decide_true, decide_false, and_self]
              rw [hmid]
              generalize List.drop 2 (List.take n l) = m at hml ⊢
              exact ⟨[.agg [.int .u8 (l.getD 1 0), .sl (n - 2) (u8s m)], .int .i64 n, .int .i64 0], [.agg [.int .u8 (l.getD 1 0), .sl (n - 2) (u8s m)], .int .i64 n, .int .i64 0], by kernel_rfl, by simp [outA, outV, outL, outC, AV.closed, u8s_closed], .refl _, rfl⟩
          · have hne : n = l.length := by omega
            have hmid : oneR l = .tup [.agg [.int .u8 (l.getD 1 0), .sl (n - 2) (u8s (List.drop 2 (List.take n l)))], .int .i64 n, .int .i64 0] := by
              have htw : (l.drop 2).takeWhile freeB = (l.drop 2).take (n - 2) := takeWhile_eq (by rw [List.length_drop]; omega) hall (.inl (by rw [List.length_drop]; omega))
              have hdt : List.drop 2 (List.take n l) = (l.drop 2).take (n - 2) := List.drop_take
              have hlen : ((l.drop 2).take (n - 2)).length = n - 2 := by rw [List.length_take, List.length_drop]; omega
              unfold oneR oneOf
              rw [if_neg hn0, if_neg (fun h => h.elim h2 (fun h => by rw [hc] at h; cases h)), htw, hdt]
              simp only [sCells, hlen]
              congr 3
              simp only [List.cons.injEq, AV.int.injEq, true_and, and_true]
              omega
            refine ex_run 30 ?_
            simp (maxSteps := 200000) only [h3, h0p, hk2, hkl, hnl', push_cast, List.getD_cons_zero, List.getD_cons_succ, List.take_succ_cons, List.take_zero, List.drop_succ_cons, Nat.reduceLT, Nat.reduceLeDiff, Nat.reduceEqDiff, Nat.reduceAdd, Nat.reduceMul, Nat.reduceSub, Int.reduceToNat, Int.reduceLE, Int.reduceLT, Int.reduceEq, Int.reduceAdd, ↓reduceIte, decide_true, decide_false, and_self]
            refine call_intro (Clone_n _ (n - 2) hml (by omega)) (fun h => by cases h) ?_
            simp (maxSteps := 200000) only [push_cast, List.getD_cons_zero, List.getD_cons_succ, List.take_succ_cons, List.take_zero, List.drop_succ_cons, Nat.reduceLT, Nat.reduceLeDiff, Nat.reduceEqDiff, Nat.reduceAdd, Nat.reduceMul, Nat.reduceSub, Int.reduceToNat, Int.reduceLE, Int.reduceLT, Int.reduceEq, Int.reduceAdd, ↓reduceIte, decide_true, decide_false, and_self]
            rw [hmid]
            generalize List.drop 2 (List.take n l) = m at hml ⊢
            exact ⟨[.agg [.int .u8 (l.getD 1 0), .sl (n - 2) (u8s m)], .int .i64 n, .int .i64 0], [.agg [.int .u8 (l.getD 1 0), .sl (n - 2) (u8s m)], .int .i64 n, .int .i64 0], by kernel_rfl, by simp [outA, outV, outL, outC, AV.closed, u8s_closed], .refl _, rfl⟩
    · rw [hbad0 (.inr h1)]
      refine ex_run 30 ?_
      simp (maxSteps := 200000) only [Try.f49, h0', h0p, i0, g0, h1, push_cast, List.getD_cons_zero, List.getD_cons_succ, List.take_succ_cons, List.take_zero, List.drop_succ_cons, Nat.reduceLT, Nat.reduceLeDiff, Nat.reduceEqDiff, Nat.reduceAdd, Nat.reduceMul, Nat.reduceSub, Int.reduceToNat, Int.reduceLE, Int.reduceLT, Int.reduceEq, Int.reduceAdd, ↓reduceIte, decide_true, decide_false, and_self]
      exact ⟨[.agg [.int .u8 0, .nilS], .int .i64 (-1), .int .i64 0], [.agg [.int .u8 0, .nilS], .int .i64 (-1), .int .i64 0], by kernel_rfl, by simp [outA, outV, outL, outC, AV.closed], sub_tup ⟨sub_agg ⟨.refl _, .nil, trivial⟩, .refl _, .refl _, trivial⟩, rfl⟩
end Go.Proofs.Ytbkmbiccdhnibaa
