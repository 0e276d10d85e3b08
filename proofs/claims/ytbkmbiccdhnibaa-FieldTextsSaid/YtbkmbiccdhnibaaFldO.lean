/- field.Same, bytes.Equal, slices.EqualFunc -/
import Derived.Test.YtbkmbiccdhnibaaFldL
set_option linter.unusedVariables false
set_option linter.unusedSimpArgs false
namespace Go.Proofs.Ytbkmbiccdhnibaa
open Go Go.Eng
def inB (l : List Int) : Prop := ∀ c ∈ l, 0 ≤ c ∧ c < 256
set_option maxRecDepth 100000 in
theorem Equal_c (a b : List Int) (ha : inB a) (hb : inB b) : ACall Try.prog 66 [.sl a.length (u8s a), .sl b.length (u8s b)] (.bool (a == b)) none := by
  have ea := u8n_eq ha
  have eb := u8n_eq hb
  refine acall_intro none Try.func66 rfl (by kernel_rfl) (by simp [Try.f66]) ?_
  refine ex_run 30 ?_
  simp (maxSteps := 200000) only [Try.f66, List.take_length, ea, eb, push_cast, List.getD_cons_zero, List.getD_cons_succ, List.take_succ_cons, List.take_zero, List.drop_succ_cons, Nat.reduceLT, Nat.reduceLeDiff, Nat.reduceEqDiff, Nat.reduceAdd, Nat.reduceMul, Nat.reduceSub, Int.reduceToNat, Int.reduceLE, Int.reduceLT, Int.reduceEq, Int.reduceAdd, ↓reduceIte, decide_true, decide_false, and_self]
  exact ⟨_, _, rfl, rfl, .refl _, rfl⟩
set_option maxRecDepth 100000 in
theorem subEq_c (s q : SubV) (hs : inB s.2) (hq : inB q.2) : ACall Try.prog 68 [.agg (sCells s), .agg (sCells q)] (.bool (decide (s = q))) none := by
  obtain ⟨c, x⟩ := s
  obtain ⟨d, y⟩ := q
  refine acall_intro none Try.func68 rfl (by kernel_rfl) (by simp [Try.f68]) ?_
  refine ex_run 30 ?_
  by_cases h : c = d
  · simp (maxSteps := 200000) only [Try.f68, sCells, h, push_cast, List.getD_cons_zero, List.getD_cons_succ, List.take_succ_cons, List.take_zero, List.drop_succ_cons, Nat.reduceLT, Nat.reduceLeDiff, Nat.reduceEqDiff, Nat.reduceAdd, Nat.reduceMul, Nat.reduceSub, Int.reduceToNat, Int.reduceLE, Int.reduceLT, Int.reduceEq, Int.reduceAdd, ↓reduceIte, decide_true, decide_false, and_self]
    refine call_intro (Equal_c x y hs hq) (fun h => by cases h) ?_
    simp (maxSteps := 200000) only [push_cast, List.getD_cons_zero, List.getD_cons_succ, List.take_succ_cons, List.take_zero, List.drop_succ_cons, Nat.reduceLT, Nat.reduceLeDiff, Nat.reduceEqDiff, Nat.reduceAdd, Nat.reduceMul, Nat.reduceSub, Int.reduceToNat, Int.reduceLE, Int.reduceLT, Int.reduceEq, Int.reduceAdd, ↓reduceIte, decide_true, decide_false, and_self]
    by_cases hxy : x = y
    · subst hxy; subst h
      exact ⟨_, _, rfl, rfl, .of_eq (by simp [pack, mkS_env, lkF]), rfl⟩
    · have e : (x == y) = false := by simpa using hxy
      rw [e]
      exact ⟨_, _, rfl, rfl, .of_eq (by rw [decide_eq_false (fun e2 => hxy (by cases e2; rfl))]; rfl), rfl⟩
  · simp (maxSteps := 200000) only [Try.f68, sCells, h, push_cast, List.getD_cons_zero, List.getD_cons_succ, List.take_succ_cons, List.take_zero, List.drop_succ_cons, Nat.reduceLT, Nat.reduceLeDiff, Nat.reduceEqDiff, Nat.reduceAdd, Nat.reduceMul, Nat.reduceSub, Int.reduceToNat, Int.reduceLE, Int.reduceLT, Int.reduceEq, Int.reduceAdd, ↓reduceIte, decide_true, decide_false, and_self]
    exact ⟨_, _, rfl, rfl, .of_eq (by rw [decide_eq_false (fun e2 => h (by cases e2; rfl))]; rfl), rfl⟩
theorem subCells_row (L : List SubV) (i : Nat) (hi : i < L.length) : ((subCells L).drop (i * 2)).take 2 = sCells L[i] := by
  have h0 := subCells_get L i 0 hi (by omega)
  have h1 := subCells_get L i 1 hi (by omega)
  have hl := subCells_length L
  apply List.ext_getElem?
  intro j
  rw [List.getElem?_take]
  split
  · rename_i hj
    rw [List.getElem?_drop]
    rcases (by omega : j = 0 ∨ j = 1) with rfl | rfl
    · rw [List.getD_eq_getElem?_getD, List.getElem?_eq_getElem (by omega)] at h0
      rw [List.getElem?_eq_getElem (by omega)]
      simpa [sCells] using h0
    · rw [List.getD_eq_getElem?_getD, List.getElem?_eq_getElem (by omega)] at h1
      rw [List.getElem?_eq_getElem (by omega)]
      simpa [sCells] using h1
  · rename_i hj
    rw [List.getElem?_eq_none]; simp [sCells]; omega
set_option maxRecDepth 100000 in
set_option maxHeartbeats 4000000 in
theorem EqualFunc_c (L M : List SubV) (hL : ∀ s ∈ L, inB s.2) (hM : ∀ s ∈ M, inB s.2) (hn : L.length ≤ 9223372036854775806) :
    ACall Try.prog 67 [.sl L.length (subCells L), .sl M.length (subCells M), .fn 68 []] (.bool (decide (L = M))) none := by
  refine acall_intro none Try.func67 rfl (by kernel_rfl) (by simp [Try.f67]) ?_
  refine ex_run 30 ?_
  by_cases hl : L.length = M.length
  · have hl' : (L.length : Int) = (M.length : Int) := by omega
    simp (maxSteps := 200000) only [Try.f67, hl', push_cast, List.getD_cons_zero, List.getD_cons_succ, List.take_succ_cons, List.take_zero, List.drop_succ_cons, Nat.reduceLT, Nat.reduceLeDiff, Nat.reduceEqDiff, Nat.reduceAdd, Nat.reduceMul, Nat.reduceSub, Int.reduceToNat, Int.reduceLE, Int.reduceLT, Int.reduceEq, Int.reduceAdd, ↓reduceIte, decide_true, decide_false, and_self]
    refine run_keep (l' := [(0, .sl L.length (subCells L)), (1, .sl M.length (subCells M)), (2, .fn 68 []), (15, .sl L.length (subCells L)), (16, .int .i64 M.length), (17, .int .i64 0)]) (t' := []) (nx' := _) ⟨.refl _, .refl _, .refl _, .refl _, .refl _, .refl _, trivial⟩ trivial (Nat.le_refl _) ?_
    refine run_loop (fun n s => ∃ (i nx : Nat), i ≤ L.length ∧ n = L.length - i ∧ L.take i = M.take i ∧ s = mkS [(0, .sl L.length (subCells L)), (1, .sl M.length (subCells M)), (2, .fn 68 []), (15, .sl L.length (subCells L)), (16, .int .i64 M.length), (17, .int .i64 i)] [] nx) _ ⟨0, _, Nat.zero_le _, rfl, rfl, rfl⟩ ?_
    rintro n s ⟨i, nx, hi, rfl, heq, rfl⟩
    by_cases h : i < L.length
    · have hm : i < M.length := by omega
      have r0 := subCells_row L i h
      have r1 := subCells_row M i hm
      have c0 := subCells_length L
      have c1 := subCells_length M
      have p0 : 0 < L.length * 2 := by omega
      have p1 : 0 < M.length * 2 := by omega
      have b0 : i * 2 + 2 ≤ L.length * 2 := by omega
      have b1 : i * 2 + 2 ≤ M.length * 2 := by omega
      have hw : IntKind.i64.wrap ((i : Int) + 1) = ((i + 1 : Nat) : Int) := by rw [wrap_i64 (by omega)]; omega
      have hx := hL _ (List.getElem_mem h)
      have hy := hM _ (List.getElem_mem hm)
      have hstep : L[i] = M[i] → L.take (i + 1) = M.take (i + 1) := fun e => by
        rw [List.take_add_one, List.take_add_one, heq, List.getElem?_eq_getElem h, List.getElem?_eq_getElem hm, e]
      have hne : L[i] ≠ M[i] → decide (L = M) = false := fun e => decide_eq_false fun e2 => e (by subst e2; rfl)
      generalize L[i] = p at *
      generalize M[i] = q at *
      have hsub := subEq_c p q hx hy
      obtain ⟨c, x⟩ := p
      obtain ⟨d, y⟩ := q
      simp only [sCells] at r0 r1 hsub
      have hcx : closedL (u8s x) = true := u8s_closed x
      refine ex_run 40 ?_
      simp (maxSteps := 200000) only [h, hm, r0, r1, c0, c1, p0, p1, b0, b1, push_cast, List.getD_cons_zero, List.getD_cons_succ, List.take_succ_cons, List.take_zero, List.drop_succ_cons, Nat.reduceLT, Nat.reduceLeDiff, Nat.reduceEqDiff, Nat.reduceAdd, Nat.reduceMul, Nat.reduceSub, Int.reduceToNat, Int.reduceLE, Int.reduceLT, Int.reduceEq, Int.reduceAdd, ↓reduceIte, decide_true, decide_false, and_self]
      refine call_intro hsub (fun h => by cases h) ?_
      by_cases he : ((c, x) : SubV) = (d, y)
      · rw [decide_eq_true he]
        simp (maxSteps := 200000) only [hw, push_cast, List.getD_cons_zero, List.getD_cons_succ, List.take_succ_cons, List.take_zero, List.drop_succ_cons, Nat.reduceLT, Nat.reduceLeDiff, Nat.reduceEqDiff, Nat.reduceAdd, Nat.reduceMul, Nat.reduceSub, Int.reduceToNat, Int.reduceLE, Int.reduceLT, Int.reduceEq, Int.reduceAdd, ↓reduceIte, decide_true, decide_false, and_self]
        refine run_back_le (le_mk (l' := [(0, .sl L.length (subCells L)), (1, .sl M.length (subCells M)), (2, .fn 68 []), (15, .sl L.length (subCells L)), (16, .int .i64 M.length), (17, .int .i64 ((i + 1 : Nat) : Int))]) (t' := []) (nx' := _) ⟨.refl _, .refl _, .refl _, .refl _, .refl _, .of_eq (congrArg (AV.int .i64) (by omega)), trivial⟩ trivial (Nat.le_refl _)) ?_
        exact ⟨L.length - (i + 1), by omega, i + 1, _, by omega, rfl, hstep he, rfl⟩
      · rw [decide_eq_false he]
        simp (maxSteps := 200000) only [hw, push_cast, List.getD_cons_zero, List.getD_cons_succ, List.take_succ_cons, List.take_zero, List.drop_succ_cons, Nat.reduceLT, Nat.reduceLeDiff, Nat.reduceEqDiff, Nat.reduceAdd, Nat.reduceMul, Nat.reduceSub, Int.reduceToNat, Int.reduceLE, Int.reduceLT, Int.reduceEq, Int.reduceAdd, ↓reduceIte, decide_true, decide_false, and_self]
        exact ⟨_, _, rfl, rfl, .of_eq (by rw [hne he]; rfl), rfl⟩
    · refine ex_run 40 ?_
      have h' : ¬ (i : Int) < (M.length : Int) := by omega
      have h'' : ¬ i < M.length := by omega
      simp (maxSteps := 200000) only [h', h'', push_cast, List.getD_cons_zero, List.getD_cons_succ, List.take_succ_cons, List.take_zero, List.drop_succ_cons, Nat.reduceLT, Nat.reduceLeDiff, Nat.reduceEqDiff, Nat.reduceAdd, Nat.reduceMul, Nat.reduceSub, Int.reduceToNat, Int.reduceLE, Int.reduceLT, Int.reduceEq, Int.reduceAdd, ↓reduceIte, decide_true, decide_false, and_self]
      rw [List.take_of_length_le (by omega), List.take_of_length_le (by omega)] at heq
      exact ⟨_, _, rfl, rfl, .of_eq (by rw [decide_eq_true heq]; rfl), rfl⟩
  · have hl' : ¬ (L.length : Int) = (M.length : Int) := by omega
    simp (maxSteps := 200000) only [Try.f67, hl', push_cast, List.getD_cons_zero, List.getD_cons_succ, List.take_succ_cons, List.take_zero, List.drop_succ_cons, Nat.reduceLT, Nat.reduceLeDiff, Nat.reduceEqDiff, Nat.reduceAdd, Nat.reduceMul, Nat.reduceSub, Int.reduceToNat, Int.reduceLE, Int.reduceLT, Int.reduceEq, Int.reduceAdd, ↓reduceIte, decide_true, decide_false, and_self]
    exact ⟨_, _, rfl, rfl, .of_eq (by rw [decide_eq_false (fun e => hl (by rw [e]))]; rfl), rfl⟩
structure FB (f : FV) : Prop where
  text : inB f.text
  subs : ∀ s ∈ f.subs, (0 ≤ s.1 ∧ s.1 < 256) ∧ inB s.2
set_option maxRecDepth 100000 in
set_option maxHeartbeats 4000000 in
theorem psame_c (f g : FV) (hf : FB f) (hg : FB g) (hn : f.subs.length ≤ 9223372036854775806) : ACall Try.prog 52 [.agg (fCells f), .agg (fCells g)] (.bool (sameB f g)) none := by
  have hcf : closedL (subCells f.subs) = true := subCells_closed _
  have hcg : closedL (subCells g.subs) = true := subCells_closed _
  refine acall_intro none Try.func52 rfl (by kernel_rfl) (by simp [Try.f52]) ?_
  refine ex_run 30 ?_
  by_cases h1 : f.tag = g.tag
  · have h1' : (f.tag == g.tag) = true := by rw [h1]; simp
    by_cases h2 : f.i0 = g.i0
    · by_cases h3 : f.i1 = g.i1
      · simp (maxSteps := 200000) only [Try.f52, fCells, h1', h2, h3, beq_self_eq_true, Bool.false_and, Bool.and_false, hcf, hcg, push_cast, List.getD_cons_zero, List.getD_cons_succ, List.take_succ_cons, List.take_zero, List.drop_succ_cons, Nat.reduceLT, Nat.reduceLeDiff, Nat.reduceEqDiff, Nat.reduceAdd, Nat.reduceMul, Nat.reduceSub, Int.reduceToNat, Int.reduceLE, Int.reduceLT, Int.reduceEq, Int.reduceAdd, ↓reduceIte, decide_true, decide_false, and_self]
        refine call_intro (Equal_c f.text g.text hf.text hg.text) (fun h => by cases h) ?_
        by_cases h4 : f.text = g.text
        · have h4' : (f.text == g.text) = true := by rw [h4]; simp
          rw [h4']
          simp (maxSteps := 200000) only [hcf, hcg, push_cast, List.getD_cons_zero, List.getD_cons_succ, List.take_succ_cons, List.take_zero, List.drop_succ_cons, Nat.reduceLT, Nat.reduceLeDiff, Nat.reduceEqDiff, Nat.reduceAdd, Nat.reduceMul, Nat.reduceSub, Int.reduceToNat, Int.reduceLE, Int.reduceLT, Int.reduceEq, Int.reduceAdd, ↓reduceIte, decide_true, decide_false, and_self]
          refine call_intro (EqualFunc_c f.subs g.subs (fun s hs => (hf.subs s hs).2) (fun s hs => (hg.subs s hs).2) hn) (fun h => by cases h) ?_
          by_cases h5 : f.subs = g.subs
          · rw [decide_eq_true h5]
            simp (maxSteps := 200000) only [push_cast, List.getD_cons_zero, List.getD_cons_succ, List.take_succ_cons, List.take_zero, List.drop_succ_cons, Nat.reduceLT, Nat.reduceLeDiff, Nat.reduceEqDiff, Nat.reduceAdd, Nat.reduceMul, Nat.reduceSub, Int.reduceToNat, Int.reduceLE, Int.reduceLT, Int.reduceEq, Int.reduceAdd, ↓reduceIte, decide_true, decide_false, and_self]
            exact ⟨_, _, rfl, rfl, .of_eq (by rw [sameB_eq h1 h2 h3 h4 h5]; rfl), rfl⟩
          · rw [decide_eq_false h5]
            simp (maxSteps := 200000) only [push_cast, List.getD_cons_zero, List.getD_cons_succ, List.take_succ_cons, List.take_zero, List.drop_succ_cons, Nat.reduceLT, Nat.reduceLeDiff, Nat.reduceEqDiff, Nat.reduceAdd, Nat.reduceMul, Nat.reduceSub, Int.reduceToNat, Int.reduceLE, Int.reduceLT, Int.reduceEq, Int.reduceAdd, ↓reduceIte, decide_true, decide_false, and_self]
            exact ⟨_, _, rfl, rfl, .of_eq (by rw [sameB_ne (fun e => h5 (by rw [e]))]; rfl), rfl⟩
        · have h4' : (f.text == g.text) = false := by simpa using h4
          rw [h4']
          simp (maxSteps := 200000) only [push_cast, List.getD_cons_zero, List.getD_cons_succ, List.take_succ_cons, List.take_zero, List.drop_succ_cons, Nat.reduceLT, Nat.reduceLeDiff, Nat.reduceEqDiff, Nat.reduceAdd, Nat.reduceMul, Nat.reduceSub, Int.reduceToNat, Int.reduceLE, Int.reduceLT, Int.reduceEq, Int.reduceAdd, ↓reduceIte, decide_true, decide_false, and_self]
          exact ⟨_, _, rfl, rfl, .of_eq (by rw [sameB_ne (fun e => h4 (by rw [e]))]; rfl), rfl⟩
      · simp (maxSteps := 200000) only [Try.f52, fCells, h1', h2, h3, beq_self_eq_true, Bool.false_and, Bool.and_false, push_cast, List.getD_cons_zero, List.getD_cons_succ, List.take_succ_cons, List.take_zero, List.drop_succ_cons, Nat.reduceLT, Nat.reduceLeDiff, Nat.reduceEqDiff, Nat.reduceAdd, Nat.reduceMul, Nat.reduceSub, Int.reduceToNat, Int.reduceLE, Int.reduceLT, Int.reduceEq, Int.reduceAdd, ↓reduceIte, decide_true, decide_false, and_self]
        exact ⟨_, _, rfl, rfl, .of_eq (by rw [sameB_ne (fun e => h3 (by rw [e]))]; rfl), rfl⟩
    · simp (maxSteps := 200000) only [Try.f52, fCells, h1', h2, Bool.false_and, Bool.and_false, push_cast, List.getD_cons_zero, List.getD_cons_succ, List.take_succ_cons, List.take_zero, List.drop_succ_cons, Nat.reduceLT, Nat.reduceLeDiff, Nat.reduceEqDiff, Nat.reduceAdd, Nat.reduceMul, Nat.reduceSub, Int.reduceToNat, Int.reduceLE, Int.reduceLT, Int.reduceEq, Int.reduceAdd, ↓reduceIte, decide_true, decide_false, and_self]
      exact ⟨_, _, rfl, rfl, .of_eq (by rw [sameB_ne (fun e => h2 (by rw [e]))]; rfl), rfl⟩
  · have h1' : (f.tag == g.tag) = false := by simpa using h1
    simp (maxSteps := 200000) only [Try.f52, fCells, h1', push_cast, List.getD_cons_zero, List.getD_cons_succ, List.take_succ_cons, List.take_zero, List.drop_succ_cons, Nat.reduceLT, Nat.reduceLeDiff, Nat.reduceEqDiff, Nat.reduceAdd, Nat.reduceMul, Nat.reduceSub, Int.reduceToNat, Int.reduceLE, Int.reduceLT, Int.reduceEq, Int.reduceAdd, ↓reduceIte, decide_true, decide_false, and_self]
    exact ⟨_, _, rfl, rfl, .of_eq (by rw [sameB_ne (fun e => h1 (by rw [e]))]; rfl), rfl⟩
end Go.Proofs.Ytbkmbiccdhnibaa
