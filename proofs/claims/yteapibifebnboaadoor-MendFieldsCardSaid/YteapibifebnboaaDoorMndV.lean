/- Law MendFields: the walk. -/
import Derived.Test.YteapibifebnboaaDoorMndU
import Derived.Test.YteapibifebnboaaDoorMndM
set_option linter.unusedVariables false
set_option linter.unusedSimpArgs false
namespace Go.Proofs.YteapibifebnboaaDoor
open Go Go.Eng
theorem mkB_len {T : List (List Int)} (h : ∀ p ∈ T, p.length ≤ 100) : (mkB T).length ≤ 25 + 101 * T.length := by
  have : ∀ T : List (List Int), (∀ p ∈ T, p.length ≤ 100) → (T.flatMap fun p => p ++ [30]).length ≤ 101 * T.length := by
    intro T
    induction T with
    | nil => intro _; simp
    | cons p T ih =>
      intro h
      have h1 := h p (List.mem_cons_self ..)
      have := ih fun q hq => h q (List.mem_cons_of_mem _ hq)
      rw [List.flatMap_cons, List.length_append, List.length_append, List.length_cons, List.length_cons, List.length_nil]; omega
  have := this T h
  unfold mkB
  rw [List.length_append, List.length_replicate, List.length_cons]; omega
theorem mkB_snoc (T : List (List Int)) (p : List Int) : mkB (T ++ [p]) = mkB T ++ p ++ [30] := by unfold mkB; simp
set_option maxRecDepth 100000 in
set_option maxHeartbeats 8000000 in
theorem MendFields_c (T : List (List Int)) (hT : ∀ p ∈ T, inB p ∧ p.length ≤ 140737488351232) (hn : T.length ≤ 140737488351232) : ACall Tryd.prog 6 [.sl T.length (txCells T)] (.bool true) none := by
  refine acall_intro none Tryd.func6 rfl (by kernel_rfl) (by simp [Tryd.f6]) ?_
  by_cases h1 : 30 < T.length
  · have h1' : (30 : Int) < (T.length : Int) := by omega
    refine ex_run 30 ?_
    simp (maxSteps := 200000) only [Tryd.f6, h1', push_cast, List.getD_cons_zero, List.getD_cons_succ, List.take_succ_cons, List.take_zero, List.drop_succ_cons, Nat.reduceLT, Nat.reduceLeDiff, Nat.reduceEqDiff, Nat.reduceAdd, Nat.reduceMul, Nat.reduceSub, Int.reduceToNat, Int.reduceLE, Int.reduceLT, Int.reduceEq, Int.reduceAdd, ↓reduceIte, decide_true, decide_false, and_self]
    refine call_intro answers23_c (fun h => by cases h) ?_
    simp (maxSteps := 200000) only [push_cast, List.getD_cons_zero, List.getD_cons_succ, List.take_succ_cons, List.take_zero, List.drop_succ_cons, Nat.reduceLT, Nat.reduceLeDiff, Nat.reduceEqDiff, Nat.reduceAdd, Nat.reduceMul, Nat.reduceSub, Int.reduceToNat, Int.reduceLE, Int.reduceLT, Int.reduceEq, Int.reduceAdd, ↓reduceIte, decide_true, decide_false, and_self]
    exact ⟨_, _, rfl, rfl, .refl _, rfl⟩
  · have h1' : ¬ (30 : Int) < (T.length : Int) := by omega
    have hTl := txCells_length T
    refine ex_run 60 ?_
    simp (maxSteps := 200000) only [Tryd.f6, h1', push_cast, List.getD_cons_zero, List.getD_cons_succ, List.take_succ_cons, List.take_zero, List.drop_succ_cons, Nat.reduceLT, Nat.reduceLeDiff, Nat.reduceEqDiff, Nat.reduceAdd, Nat.reduceMul, Nat.reduceSub, Int.reduceToNat, Int.reduceLE, Int.reduceLT, Int.reduceEq, Int.reduceAdd, ↓reduceIte, decide_true, decide_false, and_self]
    refine run_keep (l' := [(0, .sl T.length (txCells T)), (3, .own 16 _ 0 (mkB (T.take 0)).length), (4, .int .i64 (longs (T.take 0)).length), (5, .int .i64 0)]) (t' := [(16, ⟨_, 1, u8s (mkB (T.take 0))⟩)]) (nx' := _) ⟨.refl _, .refl _, .refl _, .refl _, trivial⟩ ⟨⟨_, rfl, rfl, rfl, SubL.refl _⟩, trivial⟩ (Nat.le_refl _) ?_
    refine run_loop (fun n s => ∃ (i g nx : Nat), i ≤ T.length ∧ Pl (T.take i) ∧ n = T.length - i ∧ s = mkS [(0, .sl T.length (txCells T)), (3, .own 16 g 0 (mkB (T.take i)).length), (4, .int .i64 (longs (T.take i)).length), (5, .int .i64 i)] [(16, ⟨g, 1, u8s (mkB (T.take i))⟩)] nx) _ ⟨0, _, _, Nat.zero_le _, (fun p hp => by simp at hp), rfl, rfl⟩ ?_
    rintro n s ⟨i, g, nx, hi, hPl, rfl, rfl⟩
    have hmb := mkB_len fun p hp => (hPl p hp).2.1
    have htl : (T.take i).length = i := by rw [List.length_take]; omega
    rw [htl] at hmb
    by_cases h : i < T.length
    · have h' : (i : Int) < (T.length : Int) := by omega
      have hg1 := txCells_get T i h
      have hp0 : 0 < (txCells T).length := by omega
      have hpp : i < (txCells T).length := by omega
      have hw : IntKind.i64.wrap ((i : Int) + 1) = ((i + 1 : Nat) : Int) := by rw [wrap_i64 (by omega)]; omega
      have hpin := (hT T[i] (List.getElem_mem h)).1
      have htk : T.take (i + 1) = T.take i ++ [T[i]] := by rw [List.take_add_one, List.getElem?_eq_getElem h]; rfl
      generalize T[i] = p at *
      by_cases h100 : 100 < p.length
      · have h100' : (100 : Int) < (p.length : Int) := by omega
        refine ex_run 30 ?_
        simp (maxSteps := 200000) only [h, h', hg1, hp0, hpp, h100', hTl, push_cast, List.getD_cons_zero, List.getD_cons_succ, List.take_succ_cons, List.take_zero, List.drop_succ_cons, Nat.reduceLT, Nat.reduceLeDiff, Nat.reduceEqDiff, Nat.reduceAdd, Nat.reduceMul, Nat.reduceSub, Int.reduceToNat, Int.reduceLE, Int.reduceLT, Int.reduceEq, Int.reduceAdd, ↓reduceIte, decide_true, decide_false, and_self]
        refine ⟨by omega, ?_⟩
        refine call_intro answers23_c (fun h => by cases h) ?_
        simp (maxSteps := 200000) only [push_cast, List.getD_cons_zero, List.getD_cons_succ, List.take_succ_cons, List.take_zero, List.drop_succ_cons, Nat.reduceLT, Nat.reduceLeDiff, Nat.reduceEqDiff, Nat.reduceAdd, Nat.reduceMul, Nat.reduceSub, Int.reduceToNat, Int.reduceLE, Int.reduceLT, Int.reduceEq, Int.reduceAdd, ↓reduceIte, decide_true, decide_false, and_self]
        exact ⟨_, [.bool true], rfl, by simp [outA, outV, outC, mkS_env, mkS_tk, lkF, lkG, AV.closed], .refl _, rfl⟩
      · have h100' : ¬ (100 : Int) < (p.length : Int) := by omega
        refine ex_run 30 ?_
        simp (maxSteps := 200000) only [h, h', hg1, hp0, hpp, h100', hTl, push_cast, List.getD_cons_zero, List.getD_cons_succ, List.take_succ_cons, List.take_zero, List.drop_succ_cons, Nat.reduceLT, Nat.reduceLeDiff, Nat.reduceEqDiff, Nat.reduceAdd, Nat.reduceMul, Nat.reduceSub, Int.reduceToNat, Int.reduceLE, Int.reduceLT, Int.reduceEq, Int.reduceAdd, ↓reduceIte, decide_true, decide_false, and_self]
        refine ⟨by omega, ?_⟩
        refine run_keep (l' := [(0, .sl T.length (txCells T)), (3, .own 16 g 0 (mkB (T.take i)).length), (4, .int .i64 (longs (T.take i)).length), (5, .int .i64 i), (6, .int .i64 0)]) (t' := [(16, ⟨g, 1, u8s (mkB (T.take i))⟩)]) (nx' := _) ⟨.refl _, .refl _, .refl _, .refl _, .refl _, trivial⟩ ⟨⟨_, rfl, rfl, rfl, SubL.refl _⟩, trivial⟩ (Nat.le_refl _) ?_
        refine run_loop (fun n s => ∃ (k nx : Nat), k ≤ p.length ∧ (∀ c ∈ p.take k, c ≠ 29 ∧ c ≠ 30 ∧ c ≠ 31) ∧ n = p.length - k ∧ s = mkS [(0, .sl T.length (txCells T)), (3, .own 16 g 0 (mkB (T.take i)).length), (4, .int .i64 (longs (T.take i)).length), (5, .int .i64 i), (6, .int .i64 k)] [(16, ⟨g, 1, u8s (mkB (T.take i))⟩)] nx) _ ⟨0, _, Nat.zero_le _, (fun c hc => by simp at hc), rfl, rfl⟩ ?_
        rintro n2 s ⟨k, nx2, hk, hkc, rfl, rfl⟩
        by_cases hkl : k < p.length
        · have hkl' : (k : Int) < (p.length : Int) := by omega
          have hgk := u8s_getD p k hkl
          have hwk : IntKind.i64.wrap ((k : Int) + 1) = ((k + 1 : Nat) : Int) := by rw [wrap_i64 (by omega)]; omega
          have htk2 : p.take (k + 1) = p.take k ++ [p.getD k 0] := by rw [List.take_add_one, List.getD_eq_getElem?_getD, List.getElem?_eq_getElem hkl]; rfl
          have hpl0 : 0 < p.length := by omega
          generalize p.getD k 0 = c at *
          by_cases c29 : 29 ≤ c
          · by_cases c31 : c ≤ 31
            · refine ex_run 30 ?_
              simp (maxSteps := 200000) only [h, h', hg1, hp0, hpp, hTl, hkl, hkl', hgk, c29, c31, hpl0, push_cast, List.getD_cons_zero, List.getD_cons_succ, List.take_succ_cons, List.take_zero, List.drop_succ_cons, Nat.reduceLT, Nat.reduceLeDiff, Nat.reduceEqDiff, Nat.reduceAdd, Nat.reduceMul, Nat.reduceSub, Int.reduceToNat, Int.reduceLE, Int.reduceLT, Int.reduceEq, Int.reduceAdd, ↓reduceIte, decide_true, decide_false, and_self]
              refine ⟨by omega, by omega, by omega, ?_⟩
              refine call_intro answers23_c (fun h => by cases h) ?_
              simp (maxSteps := 200000) only [push_cast, List.getD_cons_zero, List.getD_cons_succ, List.take_succ_cons, List.take_zero, List.drop_succ_cons, Nat.reduceLT, Nat.reduceLeDiff, Nat.reduceEqDiff, Nat.reduceAdd, Nat.reduceMul, Nat.reduceSub, Int.reduceToNat, Int.reduceLE, Int.reduceLT, Int.reduceEq, Int.reduceAdd, ↓reduceIte, decide_true, decide_false, and_self]
              exact ⟨_, [.bool true], rfl, by simp [outA, outV, outC, mkS_env, mkS_tk, lkF, lkG, AV.closed], .refl _, rfl⟩
            · refine ex_run 30 ?_
              simp (maxSteps := 200000) only [h, h', hg1, hp0, hpp, hTl, hkl, hkl', hgk, hwk, c29, c31, hpl0, push_cast, List.getD_cons_zero, List.getD_cons_succ, List.take_succ_cons, List.take_zero, List.drop_succ_cons, Nat.reduceLT, Nat.reduceLeDiff, Nat.reduceEqDiff, Nat.reduceAdd, Nat.reduceMul, Nat.reduceSub, Int.reduceToNat, Int.reduceLE, Int.reduceLT, Int.reduceEq, Int.reduceAdd, ↓reduceIte, decide_true, decide_false, and_self]
              refine ⟨by omega, by omega, by omega, ?_⟩
              refine run_back_le (le_mk (l' := [(0, .sl T.length (txCells T)), (3, .own 16 g 0 (mkB (T.take i)).length), (4, .int .i64 (longs (T.take i)).length), (5, .int .i64 i), (6, .int .i64 ((k + 1 : Nat) : Int))]) (t' := [(16, ⟨g, 1, u8s (mkB (T.take i))⟩)]) (nx' := _) ⟨.refl _, .refl _, .refl _, .refl _, .of_eq (congrArg (AV.int .i64) (by omega)), trivial⟩ ⟨⟨_, rfl, rfl, rfl, SubL.refl _⟩, trivial⟩ (Nat.le_refl _)) ?_
              exact ⟨p.length - (k + 1), by omega, k + 1, _, by omega, (fun d hd => by
                rw [htk2] at hd
                rcases List.mem_append.1 hd with hd | hd
                · exact hkc d hd
                · simp at hd; subst hd; omega), rfl, rfl⟩
          · refine ex_run 30 ?_
            simp (maxSteps := 200000) only [h, h', hg1, hp0, hpp, hTl, hkl, hkl', hgk, hwk, c29, hpl0, push_cast, List.getD_cons_zero, List.getD_cons_succ, List.take_succ_cons, List.take_zero, List.drop_succ_cons, Nat.reduceLT, Nat.reduceLeDiff, Nat.reduceEqDiff, Nat.reduceAdd, Nat.reduceMul, Nat.reduceSub, Int.reduceToNat, Int.reduceLE, Int.reduceLT, Int.reduceEq, Int.reduceAdd, ↓reduceIte, decide_true, decide_false, and_self]
            refine ⟨by omega, by omega, ?_⟩
            refine run_back_le (le_mk (l' := [(0, .sl T.length (txCells T)), (3, .own 16 g 0 (mkB (T.take i)).length), (4, .int .i64 (longs (T.take i)).length), (5, .int .i64 i), (6, .int .i64 ((k + 1 : Nat) : Int))]) (t' := [(16, ⟨g, 1, u8s (mkB (T.take i))⟩)]) (nx' := _) ⟨.refl _, .refl _, .refl _, .refl _, .of_eq (congrArg (AV.int .i64) (by omega)), trivial⟩ ⟨⟨_, rfl, rfl, rfl, SubL.refl _⟩, trivial⟩ (Nat.le_refl _)) ?_
            exact ⟨p.length - (k + 1), by omega, k + 1, _, by omega, (fun d hd => by
              rw [htk2] at hd
              rcases List.mem_append.1 hd with hd | hd
              · exact hkc d hd
              · simp at hd; subst hd; omega), rfl, rfl⟩
        · have hkl' : ¬ (k : Int) < (p.length : Int) := by omega
          have hke : k = p.length := by omega
          rw [hke, List.take_length] at hkc
          have hPl2 : Pl (T.take (i + 1)) := by
            rw [htk]; intro q hq
            rcases List.mem_append.1 hq with hq | hq
            · exact hPl q hq
            · simp at hq; subst hq; exact ⟨hpin, by omega, hkc⟩
          have hmk : mkB (T.take (i + 1)) = mkB (T.take i) ++ p ++ [30] := by rw [htk, mkB_snoc]
          have hmkl : (mkB (T.take (i + 1))).length = (mkB (T.take i)).length + p.length + 1 := by rw [hmk, List.length_append, List.length_append]; rfl
          have hll : (longs (T.take i)).length ≤ i := by have := List.length_filter_le (fun p : List Int => decide (2 < p.length)) (T.take i); rw [htl] at this; exact this
          have hl1 : u8s (mkB (T.take (i + 1))) = u8s (mkB (T.take i) ++ p) ++ [.int .u8 30] := by rw [hmk, ← u8s_append]; rfl
          by_cases hl2 : 2 < p.length
          · have hl2' : (2 : Int) < (p.length : Int) := by omega
            have hlong : (longs (T.take (i + 1))).length = (longs (T.take i)).length + 1 := by rw [htk]; unfold longs; rw [List.filter_append, List.length_append, List.filter_cons_of_pos (by simpa using hl2)]; rfl
            have hwl : IntKind.i64.wrap (((longs (T.take i)).length : Int) + 1) = (((longs (T.take (i + 1))).length : Nat) : Int) := by rw [wrap_i64 (by omega)]; omega
            refine ex_run 30 ?_
            simp (maxSteps := 200000) only [h, h', hg1, hp0, hpp, hTl, hkl', hl2', hw, hwl, u8s_length, push_cast, List.getD_cons_zero, List.getD_cons_succ, List.take_succ_cons, List.take_zero, List.drop_succ_cons, Nat.reduceLT, Nat.reduceLeDiff, Nat.reduceEqDiff, Nat.reduceAdd, Nat.reduceMul, Nat.reduceSub, Int.reduceToNat, Int.reduceLE, Int.reduceLT, Int.reduceEq, Int.reduceAdd, ↓reduceIte, decide_true, decide_false, and_self]
            refine ⟨by omega, by omega, by omega, ⟨by omega, by omega⟩, ⟨by rw [List.length_append], by omega, by omega⟩, ?_⟩
            refine run_back_le (le_mk (l' := [(0, .sl T.length (txCells T)), (3, .own 16 _ 0 (mkB (T.take (i + 1))).length), (4, .int .i64 (longs (T.take (i + 1))).length), (5, .int .i64 ((i + 1 : Nat) : Int))]) (t' := [(16, ⟨_, 1, u8s (mkB (T.take (i + 1)))⟩)]) (nx' := _) ⟨.refl _, .of_eq (congrArg (AV.own 16 _ 0) hmkl.symm), .of_eq (by first | rfl | (rw [hlong])), .of_eq (congrArg (AV.int .i64) (by omega)), trivial⟩ ⟨⟨_, rfl, rfl, rfl, by rw [hl1]; exact SubL.refl _⟩, trivial⟩ (Nat.le_refl _)) ?_
            exact ⟨T.length - (i + 1), by omega, i + 1, _, _, by omega, hPl2, rfl, rfl⟩
          · have hl2' : ¬ (2 : Int) < (p.length : Int) := by omega
            have hlong : (longs (T.take (i + 1))).length = (longs (T.take i)).length := by rw [htk]; unfold longs; rw [List.filter_append, List.length_append, List.filter_cons_of_neg (by simpa using hl2)]; rfl
            refine ex_run 30 ?_
            simp (maxSteps := 200000) only [h, h', hg1, hp0, hpp, hTl, hkl', hl2', hw, u8s_length, push_cast, List.getD_cons_zero, List.getD_cons_succ, List.take_succ_cons, List.take_zero, List.drop_succ_cons, Nat.reduceLT, Nat.reduceLeDiff, Nat.reduceEqDiff, Nat.reduceAdd, Nat.reduceMul, Nat.reduceSub, Int.reduceToNat, Int.reduceLE, Int.reduceLT, Int.reduceEq, Int.reduceAdd, ↓reduceIte, decide_true, decide_false, and_self]
            refine ⟨by omega, by omega, by omega, ⟨by omega, by omega⟩, ⟨by rw [List.length_append], by omega, by omega⟩, ?_⟩
            refine run_back_le (le_mk (l' := [(0, .sl T.length (txCells T)), (3, .own 16 _ 0 (mkB (T.take (i + 1))).length), (4, .int .i64 (longs (T.take (i + 1))).length), (5, .int .i64 ((i + 1 : Nat) : Int))]) (t' := [(16, ⟨_, 1, u8s (mkB (T.take (i + 1)))⟩)]) (nx' := _) ⟨.refl _, .of_eq (congrArg (AV.own 16 _ 0) hmkl.symm), .of_eq (by first | rfl | (rw [hlong])), .of_eq (congrArg (AV.int .i64) (by omega)), trivial⟩ ⟨⟨_, rfl, rfl, rfl, by rw [hl1]; exact SubL.refl _⟩, trivial⟩ (Nat.le_refl _)) ?_
            exact ⟨T.length - (i + 1), by omega, i + 1, _, _, by omega, hPl2, rfl, rfl⟩
    · have h' : ¬ (i : Int) < (T.length : Int) := by omega
      have hie : i = T.length := by omega
      refine ex_run 5 ?_
      simp (maxSteps := 200000) only [h, h', push_cast, List.getD_cons_zero, List.getD_cons_succ, List.take_succ_cons, List.take_zero, List.drop_succ_cons, Nat.reduceLT, Nat.reduceLeDiff, Nat.reduceEqDiff, Nat.reduceAdd, Nat.reduceMul, Nat.reduceSub, Int.reduceToNat, Int.reduceLE, Int.reduceLT, Int.reduceEq, Int.reduceAdd, ↓reduceIte, decide_true, decide_false, and_self]
      have hTT : T.take i = T := by rw [hie]; exact List.take_length
      rw [hTT] at hPl hmb ⊢
      have hbin := mkB_in hPl
      obtain ⟨lead, hpar⟩ := mkB_parse hPl (by omega)
      have hM := Mend_c (mkB T) hbin (by omega)
      have hMin := mend_in hbin
      have hMl := mend_len hbin
      have hP := rPParse_c (mendM (mkB T)) (by omega) hMin
      rw [hpar] at hP
      have hxc := u8s_closed (mendM (mkB T))
      generalize mendM (mkB T) = x at *
      refine run_keep (l' := [(0, .sl T.length (txCells T)), (3, .own 16 g 0 (mkB T).length), (4, .int .i64 (longs T).length)]) (t' := [(16, ⟨g, 1, u8s (mkB T)⟩)]) (nx' := _) ⟨.refl _, .refl _, .refl _, trivial⟩ ⟨⟨_, rfl, rfl, rfl, SubL.refl _⟩, trivial⟩ (Nat.le_refl _) ?_
      refine Go.Eng.run_freeze (l' := [(0, .sl T.length (txCells T)), (3, .sl (mkB T).length (u8s (mkB T))), (4, .int .i64 (longs T).length)]) (tl' := []) 16 ⟨g, 1, u8s (mkB T)⟩ rfl ⟨.keep _, frz_own 16 g (mkB T), .keep _, trivial⟩ trivial ?_
      have hmc := u8s_closed (mkB T)
      have hrc : closedL (rowCells ((longs T).map fldOf)) = true := rowCells_closed _
      have hml : ((longs T).map fldOf).length = (longs T).length := List.length_map _
      refine ex_run 60 ?_
      simp (maxSteps := 200000) only [hmc, push_cast, List.getD_cons_zero, List.getD_cons_succ, List.take_succ_cons, List.take_zero, List.drop_succ_cons, Nat.reduceLT, Nat.reduceLeDiff, Nat.reduceEqDiff, Nat.reduceAdd, Nat.reduceMul, Nat.reduceSub, Int.reduceToNat, Int.reduceLE, Int.reduceLT, Int.reduceEq, Int.reduceAdd, ↓reduceIte, decide_true, decide_false, and_self]
      refine call_intro hM (fun h => by cases h) ?_
      simp (maxSteps := 200000) only [hxc, push_cast, List.getD_cons_zero, List.getD_cons_succ, List.take_succ_cons, List.take_zero, List.drop_succ_cons, Nat.reduceLT, Nat.reduceLeDiff, Nat.reduceEqDiff, Nat.reduceAdd, Nat.reduceMul, Nat.reduceSub, Int.reduceToNat, Int.reduceLE, Int.reduceLT, Int.reduceEq, Int.reduceAdd, ↓reduceIte, decide_true, decide_false, and_self]
      refine call_intro hP (fun h => by cases h) ?_
      simp (maxSteps := 200000) only [rres, rCells, hrc, flt, hml, push_cast, List.getD_cons_zero, List.getD_cons_succ, List.take_succ_cons, List.take_zero, List.drop_succ_cons, Nat.reduceLT, Nat.reduceLeDiff, Nat.reduceEqDiff, Nat.reduceAdd, Nat.reduceMul, Nat.reduceSub, Int.reduceToNat, Int.reduceLE, Int.reduceLT, Int.reduceEq, Int.reduceAdd, ↓reduceIte, decide_true, decide_false, and_self]
      refine call_intro answers23_c (fun h => by cases h) ?_
      simp (maxSteps := 200000) only [hrc, hml, push_cast, List.getD_cons_zero, List.getD_cons_succ, List.take_succ_cons, List.take_zero, List.drop_succ_cons, Nat.reduceLT, Nat.reduceLeDiff, Nat.reduceEqDiff, Nat.reduceAdd, Nat.reduceMul, Nat.reduceSub, Int.reduceToNat, Int.reduceLE, Int.reduceLT, Int.reduceEq, Int.reduceAdd, ↓reduceIte, decide_true, decide_false, and_self]
      generalize nx + 4 + 1 + 1 + 1 + 1 + 1 + 1 = G
      clear hTT hie h h' htl hi
      refine run_keep (l' := [(0, .sl T.length (txCells T)), (7, .addr 7 G 0), (9, .int .i64 (longs (T.take 0)).length), (10, .int .i64 0)]) (t' := [(7, ⟨G, 1, [.str lead, .sl (longs T).length (rowCells ((longs T).map fldOf))]⟩)]) (nx' := _) ⟨.refl _, .refl _, .refl _, .refl _, trivial⟩ ⟨⟨_, rfl, rfl, rfl, SubL.refl _⟩, trivial⟩ (Nat.le_refl _) ?_
      refine run_loop (fun n s => ∃ (i nx : Nat), i ≤ T.length ∧ n = T.length - i ∧ s = mkS [(0, .sl T.length (txCells T)), (7, .addr 7 G 0), (9, .int .i64 (longs (T.take i)).length), (10, .int .i64 i)] [(7, ⟨G, 1, [.str lead, .sl (longs T).length (rowCells ((longs T).map fldOf))]⟩)] nx) _ ⟨0, _, Nat.zero_le _, rfl, rfl⟩ ?_
      rintro n s ⟨i, nx, hi, rfl, rfl⟩
      have hrl := rowCells_length ((longs T).map fldOf)
      rw [hml] at hrl
      by_cases h : i < T.length
      · have h' : (i : Int) < (T.length : Int) := by omega
        have hg1 := txCells_get T i h
        have hw : IntKind.i64.wrap ((i : Int) + 1) = ((i + 1 : Nat) : Int) := by rw [wrap_i64 (by omega)]; omega
        have htk : T.take (i + 1) = T.take i ++ [T[i]] := by rw [List.take_add_one, List.getElem?_eq_getElem h]; rfl
        have hlg : longs T = longs (T.take i) ++ longs (T[i] :: T.drop (i + 1)) := by
          unfold longs
          rw [← List.filter_append, ← List.drop_eq_getElem_cons h, List.take_append_drop]
        have hPp := hPl T[i] (List.getElem_mem h)
        generalize T[i] = p at *
        by_cases hl2 : 2 < p.length
        · have hl2' : (2 : Int) < (p.length : Int) := by omega
          have hlong : (longs (T.take (i + 1))).length = (longs (T.take i)).length + 1 := by rw [htk]; unfold longs; rw [List.filter_append, List.length_append, List.filter_cons_of_pos (by simpa using hl2)]; rfl
          have hlg2 : longs T = longs (T.take i) ++ p :: longs (T.drop (i + 1)) := by rw [hlg]; unfold longs; rw [List.filter_cons_of_pos (l := T.drop (i + 1)) (by simpa using hl2)]
          have hmlt : (longs (T.take i)).length < (longs T).length := by rw [hlg2, List.length_append, List.length_cons]; omega
          have hrow := rowCells_row ((longs T).map fldOf) (longs (T.take i)).length (by rw [hml]; exact hmlt)
          have hget : ((longs T).map fldOf)[(longs (T.take i)).length]'(by rw [hml]; exact hmlt) = fldOf p := by rw [List.getElem_map]; congr 1; simp [hlg2]
          rw [hget] at hrow
          have hfc : fCells (fldOf p) = [.str [57, 57, 57], .sl 0 [], .int .u8 (indM p 0), .int .u8 (indM p 1), .sl 1 [.int .u8 97, .sl (p.drop 2).length (u8s (p.drop 2))]] := rfl
          rw [hfc] at hrow
          have hdl : (p.drop 2).length = p.length - 2 := List.length_drop
          have hll2 : (longs T).length ≤ T.length := List.length_filter_le _ _
          have hwm : IntKind.i64.wrap (((longs (T.take i)).length : Int) + 1) = (((longs (T.take (i + 1))).length : Nat) : Int) := by rw [wrap_i64 (by omega)]; omega
          have l0 : (longs (T.take i)).length * 5 + 5 ≤ (rowCells ((longs T).map fldOf)).length := by omega
          have hpc := u8s_closed (p.drop 2)
          have h999 : bytesOf { data := #[57, 57, 57] } = [57, 57, 57] := rfl
          have hpt : List.take p.length p = p := List.take_length
          have hS := same_n (p.drop 2) (p.drop 2) (p.length - 2) (p.length - 2) hdl hdl (by omega)
          rw [beq_self_eq_true] at hS
          rw [hdl] at hrow
          refine ex_run 30 ?_
          simp (maxSteps := 200000) only [h, h', hg1, hTl, hl2', hw, hwm, hrow, l0, h999, hpt, hpc, beq_self_eq_true, Bool.not_true, push_cast, List.getD_cons_zero, List.getD_cons_succ, List.take_succ_cons, List.take_zero, List.drop_succ_cons, Nat.reduceLT, Nat.reduceLeDiff, Nat.reduceEqDiff, Nat.reduceAdd, Nat.reduceMul, Nat.reduceSub, Int.reduceToNat, Int.reduceLE, Int.reduceLT, Int.reduceEq, Int.reduceAdd, ↓reduceIte, decide_true, decide_false, and_self]
          refine ⟨by omega, ⟨hmlt, by omega⟩, by kernel_rfl, ?_⟩
          refine ⟨by omega, by omega, ?_⟩
          refine call_introF hS (fun h => by cases h) ?_
          simp (maxSteps := 200000) only [hw, Bool.not_true, push_cast, List.getD_cons_zero, List.getD_cons_succ, List.take_succ_cons, List.take_zero, List.drop_succ_cons, Nat.reduceLT, Nat.reduceLeDiff, Nat.reduceEqDiff, Nat.reduceAdd, Nat.reduceMul, Nat.reduceSub, Int.reduceToNat, Int.reduceLE, Int.reduceLT, Int.reduceEq, Int.reduceAdd, ↓reduceIte, decide_true, decide_false, and_self]
          refine ⟨okTr_of (by kernel_rfl), ?_⟩
          refine run_back_le (le_mk (l' := [(0, .sl T.length (txCells T)), (7, .addr 7 G 0), (9, .int .i64 (longs (T.take (i + 1))).length), (10, .int .i64 ((i + 1 : Nat) : Int))]) (t' := [(7, ⟨G, 1, [.str lead, .sl (longs T).length (rowCells ((longs T).map fldOf))]⟩)]) (nx' := _) ⟨.refl _, .refl _, .refl _, .of_eq (congrArg (AV.int .i64) (by omega)), trivial⟩ ⟨⟨_, rfl, rfl, rfl, SubL.refl _⟩, trivial⟩ (Nat.le_refl _)) ?_
          exact ⟨T.length - (i + 1), by omega, i + 1, _, by omega, rfl, rfl⟩
        · have hl2' : ¬ (2 : Int) < (p.length : Int) := by omega
          refine ex_run 30 ?_
          simp (maxSteps := 200000) only [h, h', hg1, hTl, hl2', hw, push_cast, List.getD_cons_zero, List.getD_cons_succ, List.take_succ_cons, List.take_zero, List.drop_succ_cons, Nat.reduceLT, Nat.reduceLeDiff, Nat.reduceEqDiff, Nat.reduceAdd, Nat.reduceMul, Nat.reduceSub, Int.reduceToNat, Int.reduceLE, Int.reduceLT, Int.reduceEq, Int.reduceAdd, ↓reduceIte, decide_true, decide_false, and_self]
          have hlong : (longs (T.take (i + 1))).length = (longs (T.take i)).length := by rw [htk]; unfold longs; rw [List.filter_append, List.length_append, List.filter_cons_of_neg (by simpa using hl2)]; rfl
          refine ⟨by omega, ?_⟩
          refine run_back_le (le_mk (l' := [(0, .sl T.length (txCells T)), (7, .addr 7 G 0), (9, .int .i64 (longs (T.take (i + 1))).length), (10, .int .i64 ((i + 1 : Nat) : Int))]) (t' := [(7, ⟨G, 1, [.str lead, .sl (longs T).length (rowCells ((longs T).map fldOf))]⟩)]) (nx' := _) ⟨.refl _, .refl _, .of_eq (by rw [hlong]), .of_eq (congrArg (AV.int .i64) (by omega)), trivial⟩ ⟨⟨_, rfl, rfl, rfl, SubL.refl _⟩, trivial⟩ (Nat.le_refl _)) ?_
          exact ⟨T.length - (i + 1), by omega, i + 1, _, by omega, rfl, rfl⟩
      · have h' : ¬ (i : Int) < (T.length : Int) := by omega
        refine ex_run 30 ?_
        simp (maxSteps := 200000) only [h, h', push_cast, List.getD_cons_zero, List.getD_cons_succ, List.take_succ_cons, List.take_zero, List.drop_succ_cons, Nat.reduceLT, Nat.reduceLeDiff, Nat.reduceEqDiff, Nat.reduceAdd, Nat.reduceMul, Nat.reduceSub, Int.reduceToNat, Int.reduceLE, Int.reduceLT, Int.reduceEq, Int.reduceAdd, ↓reduceIte, decide_true, decide_false, and_self]
        exact ⟨_, [.bool true], rfl, by simp [outA, outV, outC, mkS_env, mkS_tk, lkF, lkG, AV.closed], .refl _, rfl⟩
end Go.Proofs.YteapibifebnboaaDoor
