/- GFd: the texts FldO, FldQ, FldR, FldS, FldT, FldU, one behind the other. -/
import Derived.Test.YteapibifebnboaaGFc
set_option linter.unusedVariables false
set_option linter.unusedSimpArgs false

/- field.Same, bytes.Equal, slices.EqualFunc -/
set_option linter.unusedVariables false
set_option linter.unusedSimpArgs false
namespace Go.Proofs.Yteapibifebnboaa
open Go Go.Eng
def inB (l : List Int) : Prop := ∀ c ∈ l, 0 ≤ c ∧ c < 256
set_option maxRecDepth 100000 in
theorem Equal_c (a b : List Int) (ha : inB a) (hb : inB b) : ACall Try.prog 66 [.sl a.length (u8s a), .sl b.length (u8s b)] (.bool (a == b)) none := by
  have ea := u8n_eq ha
  have eb := u8n_eq hb
  refine acall_intro none Try.func66 rfl (by kernel_rfl) (by simp [Try.f66]) ?_
  refine ex_run 30 ?_
  simp (maxSteps := 200000) only [Try.f66, List.take_length, ea, eb, push_cast, List.getD_cons_zero, List.getD_cons_succ, List.take_succ_cons, List.take_zero, List.drop_succ_cons, Nat.reduceLT, Nat.reduceLeDiff, Nat.reduceEqDiff, Nat.reduceAdd, Nat.reduceMul, Nat.reduceSub, Int.reduceToNat, Int.reduceLE, Int.reduceLT, Int.reduceEq, Int.reduceAdd, ↓reduceIte, decide_true, decide_false, and_self]
  exact ⟨_, _, rfl, rfl, .refl _, rfl⟩
set_option maxRecDepth 100000 in
theorem subEq_c (s q : SubV) (hs : inB s.2) (hq : inB q.2) : ACall Try.prog 68 [.agg (sCells s), .agg (sCells q)] (.bool (decide (s = q))) none := by
  obtain ⟨c, x⟩ := s
  obtain ⟨d, y⟩ := q
  refine acall_intro none Try.func68 rfl (by kernel_rfl) (by simp [Try.f68]) ?_
  refine ex_run 30 ?_
  by_cases h : c = d
  · simp (maxSteps := 200000) only [Try.f68, sCells, h, push_cast, List.getD_cons_zero, List.getD_cons_succ, List.take_succ_cons, List.take_zero, List.drop_succ_cons, Nat.reduceLT, Nat.reduceLeDiff, Nat.reduceEqDiff, Nat.reduceAdd, Nat.reduceMul, Nat.reduceSub, Int.reduceToNat, Int.reduceLE, Int.reduceLT, Int.reduceEq, Int.reduceAdd, ↓reduceIte, decide_true, decide_false, and_self]
    refine call_intro (Equal_c x y hs hq) (fun h => by cases h) ?_
    simp (maxSteps := 200000) only [push_cast, List.getD_cons_zero, List.getD_cons_succ, List.take_succ_cons, List.take_zero, List.drop_succ_cons, Nat.reduceLT, Nat.reduceLeDiff, Nat.reduceEqDiff, Nat.reduceAdd, Nat.reduceMul, Nat.reduceSub, Int.reduceToNat, Int.reduceLE, Int.reduceLT, Int.reduceEq, Int.reduceAdd, ↓reduceIte, decide_true, decide_false, and_self]
    by_cases hxy : x = y
    · subst hxy; subst h
      exact ⟨_, _, rfl, rfl, .of_eq (by simp [pack, mkS_env, lkF]), rfl⟩
    · have e : (x == y) = false := by simpa using hxy
      rw [e]
      exact ⟨_, _, rfl, rfl, .of_eq (by rw [decide_eq_false (fun e2 => hxy (by cases e2; rfl))]; rfl), rfl⟩
  · simp (maxSteps := 200000) only [Try.f68, sCells, h, push_cast, List.getD_cons_zero, List.getD_cons_succ, List.take_succ_cons, List.take_zero, List.drop_succ_cons, Nat.reduceLT, Nat.reduceLeDiff, Nat.reduceEqDiff, Nat.reduceAdd, Nat.reduceMul, Nat.reduceSub, Int.reduceToNat, Int.reduceLE, Int.reduceLT, Int.reduceEq, Int.reduceAdd, ↓reduceIte, decide_true, decide_false, and_self]
    exact ⟨_, _, rfl, rfl, .of_eq (by rw [decide_eq_false (fun e2 => h (by cases e2; rfl))]; rfl), rfl⟩
theorem subCells_row (L : List SubV) (i : Nat) (hi : i < L.length) : ((subCells L).drop (i * 2)).take 2 = sCells L[i] := by
  have h0 := subCells_get L i 0 hi (by omega)
  have h1 := subCells_get L i 1 hi (by omega)
  have hl := subCells_length L
  apply List.ext_getElem?
  intro j
  rw [List.getElem?_take]
  split
  · rename_i hj
    rw [List.getElem?_drop]
    rcases (by omega : j = 0 ∨ j = 1) with rfl | rfl
    · rw [List.getD_eq_getElem?_getD, List.getElem?_eq_getElem (by omega)] at h0
      rw [List.getElem?_eq_getElem (by omega)]
      simpa [sCells] using h0
    · rw [List.getD_eq_getElem?_getD, List.getElem?_eq_getElem (by omega)] at h1
      rw [List.getElem?_eq_getElem (by omega)]
      simpa [sCells] using h1
  · rename_i hj
    rw [List.getElem?_eq_none]; simp [sCells]; omega
set_option maxRecDepth 100000 in
set_option maxHeartbeats 4000000 in
theorem EqualFunc_c (L M : List SubV) (hL : ∀ s ∈ L, inB s.2) (hM : ∀ s ∈ M, inB s.2) (hn : L.length ≤ 9223372036854775806) :
    ACall Try.prog 67 [.sl L.length (subCells L), .sl M.length (subCells M), .fn 68 []] (.bool (decide (L = M))) none := by
  refine acall_intro none Try.func67 rfl (by kernel_rfl) (by simp [Try.f67]) ?_
  refine ex_run 30 ?_
  by_cases hl : L.length = M.length
  · have hl' : (L.length : Int) = (M.length : Int) := by omega
    simp (maxSteps := 200000) only [Try.f67, hl', push_cast, List.getD_cons_zero, List.getD_cons_succ, List.take_succ_cons, List.take_zero, List.drop_succ_cons, Nat.reduceLT, Nat.reduceLeDiff, Nat.reduceEqDiff, Nat.reduceAdd, Nat.reduceMul, Nat.reduceSub, Int.reduceToNat, Int.reduceLE, Int.reduceLT, Int.reduceEq, Int.reduceAdd, ↓reduceIte, decide_true, decide_false, and_self]
    refine run_keep (l' := [(0, .sl L.length (subCells L)), (1, .sl M.length (subCells M)), (2, .fn 68 []), (15, .sl L.length (subCells L)), (16, .int .i64 M.length), (17, .int .i64 0)]) (t' := []) (nx' := _) ⟨.refl _, .refl _, .refl _, .refl _, .refl _, .refl _, trivial⟩ trivial (Nat.le_refl _) ?_
    refine run_loop (fun n s => ∃ (i nx : Nat), i ≤ L.length ∧ n = L.length - i ∧ L.take i = M.take i ∧ s = mkS [(0, .sl L.length (subCells L)), (1, .sl M.length (subCells M)), (2, .fn 68 []), (15, .sl L.length (subCells L)), (16, .int .i64 M.length), (17, .int .i64 i)] [] nx) _ ⟨0, _, Nat.zero_le _, rfl, rfl, rfl⟩ ?_
    rintro n s ⟨i, nx, hi, rfl, heq, rfl⟩
    by_cases h : i < L.length
    · have hm : i < M.length := by omega
      have r0 := subCells_row L i h
      have r1 := subCells_row M i hm
      have c0 := subCells_length L
      have c1 := subCells_length M
      have p0 : 0 < L.length * 2 := by omega
      have p1 : 0 < M.length * 2 := by omega
      have b0 : i * 2 + 2 ≤ L.length * 2 := by omega
      have b1 : i * 2 + 2 ≤ M.length * 2 := by omega
      have hw : IntKind.i64.wrap ((i : Int) + 1) = ((i + 1 : Nat) : Int) := by rw [wrap_i64 (by omega)]; omega
      have hx := hL _ (List.getElem_mem h)
      have hy := hM _ (List.getElem_mem hm)
      have hstep : L[i] = M[i] → L.take (i + 1) = M.take (i + 1) := fun e => by
        rw [List.take_add_one, List.take_add_one, heq, List.getElem?_eq_getElem h, List.getElem?_eq_getElem hm, e]
      have hne : L[i] ≠ M[i] → decide (L = M) = false := fun e => decide_eq_false fun e2 => e (by subst e2; rfl)
      generalize L[i] = p at *
      generalize M[i] = q at *
      have hsub := subEq_c p q hx hy
      obtain ⟨c, x⟩ := p
      obtain ⟨d, y⟩ := q
      simp only [sCells] at r0 r1 hsub
      have hcx : closedL (u8s x) = true := u8s_closed x
      refine ex_run 40 ?_
      simp (maxSteps := 200000) only [h, hm, r0, r1, c0, c1, p0, p1, b0, b1, push_cast, List.getD_cons_zero, List.getD_cons_succ, List.take_succ_cons, List.take_zero, List.drop_succ_cons, Nat.reduceLT, Nat.reduceLeDiff, Nat.reduceEqDiff, Nat.reduceAdd, Nat.reduceMul, Nat.reduceSub, Int.reduceToNat, Int.reduceLE, Int.reduceLT, Int.reduceEq, Int.reduceAdd, ↓reduceIte, decide_true, decide_false, and_self]
      refine call_intro hsub (fun h => by cases h) ?_
      by_cases he : ((c, x) : SubV) = (d, y)
      · rw [decide_eq_true he]
        simp (maxSteps := 200000) only [hw, push_cast, List.getD_cons_zero, List.getD_cons_succ, List.take_succ_cons, List.take_zero, List.drop_succ_cons, Nat.reduceLT, Nat.reduceLeDiff, Nat.reduceEqDiff, Nat.reduceAdd, Nat.reduceMul, Nat.reduceSub, Int.reduceToNat, Int.reduceLE, Int.reduceLT, Int.reduceEq, Int.reduceAdd, ↓reduceIte, decide_true, decide_false, and_self]
        refine run_back_le (le_mk (l' := [(0, .sl L.length (subCells L)), (1, .sl M.length (subCells M)), (2, .fn 68 []), (15, .sl L.length (subCells L)), (16, .int .i64 M.length), (17, .int .i64 ((i + 1 : Nat) : Int))]) (t' := []) (nx' := _) ⟨.refl _, .refl _, .refl _, .refl _, .refl _, .of_eq (congrArg (AV.int .i64) (by omega)), trivial⟩ trivial (Nat.le_refl _)) ?_
        exact ⟨L.length - (i + 1), by omega, i + 1, _, by omega, rfl, hstep he, rfl⟩
      · rw [decide_eq_false he]
        simp (maxSteps := 200000) only [hw, push_cast, List.getD_cons_zero, List.getD_cons_succ, List.take_succ_cons, List.take_zero, List.drop_succ_cons, Nat.reduceLT, Nat.reduceLeDiff, Nat.reduceEqDiff, Nat.reduceAdd, Nat.reduceMul, Nat.reduceSub, Int.reduceToNat, Int.reduceLE, Int.reduceLT, Int.reduceEq, Int.reduceAdd, ↓reduceIte, decide_true, decide_false, and_self]
        exact ⟨_, _, rfl, rfl, .of_eq (by rw [hne he]; rfl), rfl⟩
    · refine ex_run 40 ?_
      have h' : ¬ (i : Int) < (M.length : Int) := by omega
      have h'' : ¬ i < M.length := by omega
      simp (maxSteps := 200000) only [h', h'', push_cast, List.getD_cons_zero, List.getD_cons_succ, List.take_succ_cons, List.take_zero, List.drop_succ_cons, Nat.reduceLT, Nat.reduceLeDiff, Nat.reduceEqDiff, Nat.reduceAdd, Nat.reduceMul, Nat.reduceSub, Int.reduceToNat, Int.reduceLE, Int.reduceLT, Int.reduceEq, Int.reduceAdd, ↓reduceIte, decide_true, decide_false, and_self]
      rw [List.take_of_length_le (by omega), List.take_of_length_le (by omega)] at heq
      exact ⟨_, _, rfl, rfl, .of_eq (by rw [decide_eq_true heq]; rfl), rfl⟩
  · have hl' : ¬ (L.length : Int) = (M.length : Int) := by omega
    simp (maxSteps := 200000) only [Try.f67, hl', push_cast, List.getD_cons_zero, List.getD_cons_succ, List.take_succ_cons, List.take_zero, List.drop_succ_cons, Nat.reduceLT, Nat.reduceLeDiff, Nat.reduceEqDiff, Nat.reduceAdd, Nat.reduceMul, Nat.reduceSub, Int.reduceToNat, Int.reduceLE, Int.reduceLT, Int.reduceEq, Int.reduceAdd, ↓reduceIte, decide_true, decide_false, and_self]
    exact ⟨_, _, rfl, rfl, .of_eq (by rw [decide_eq_false (fun e => hl (by rw [e]))]; rfl), rfl⟩
structure FB (f : FV) : Prop where
  text : inB f.text
  subs : ∀ s ∈ f.subs, (0 ≤ s.1 ∧ s.1 < 256) ∧ inB s.2
set_option maxRecDepth 100000 in
set_option maxHeartbeats 4000000 in
theorem psame_c (f g : FV) (hf : FB f) (hg : FB g) (hn : f.subs.length ≤ 9223372036854775806) : ACall Try.prog 52 [.agg (fCells f), .agg (fCells g)] (.bool (sameB f g)) none := by
  have hcf : closedL (subCells f.subs) = true := subCells_closed _
  have hcg : closedL (subCells g.subs) = true := subCells_closed _
  refine acall_intro none Try.func52 rfl (by kernel_rfl) (by simp [Try.f52]) ?_
  refine ex_run 30 ?_
  by_cases h1 : f.tag = g.tag
  · have h1' : (f.tag == g.tag) = true := by rw [h1]; simp
    by_cases h2 : f.i0 = g.i0
    · by_cases h3 : f.i1 = g.i1
      · simp (maxSteps := 200000) only [Try.f52, fCells, h1', h2, h3, beq_self_eq_true, Bool.false_and, Bool.and_false, hcf, hcg, push_cast, List.getD_cons_zero, List.getD_cons_succ, List.take_succ_cons, List.take_zero, List.drop_succ_cons, Nat.reduceLT, Nat.reduceLeDiff, Nat.reduceEqDiff, Nat.reduceAdd, Nat.reduceMul, Nat.reduceSub, Int.reduceToNat, Int.reduceLE, Int.reduceLT, Int.reduceEq, Int.reduceAdd, ↓reduceIte, decide_true, decide_false, and_self]
        refine call_intro (Equal_c f.text g.text hf.text hg.text) (fun h => by cases h) ?_
        by_cases h4 : f.text = g.text
        · have h4' : (f.text == g.text) = true := by rw [h4]; simp
          rw [h4']
          simp (maxSteps := 200000) only [hcf, hcg, push_cast, List.getD_cons_zero, List.getD_cons_succ, List.take_succ_cons, List.take_zero, List.drop_succ_cons, Nat.reduceLT, Nat.reduceLeDiff, Nat.reduceEqDiff, Nat.reduceAdd, Nat.reduceMul, Nat.reduceSub, Int.reduceToNat, Int.reduceLE, Int.reduceLT, Int.reduceEq, Int.reduceAdd, ↓reduceIte, decide_true, decide_false, and_self]
          refine call_intro (EqualFunc_c f.subs g.subs (fun s hs => (hf.subs s hs).2) (fun s hs => (hg.subs s hs).2) hn) (fun h => by cases h) ?_
          by_cases h5 : f.subs = g.subs
          · rw [decide_eq_true h5]
            simp (maxSteps := 200000) only [push_cast, List.getD_cons_zero, List.getD_cons_succ, List.take_succ_cons, List.take_zero, List.drop_succ_cons, Nat.reduceLT, Nat.reduceLeDiff, Nat.reduceEqDiff, Nat.reduceAdd, Nat.reduceMul, Nat.reduceSub, Int.reduceToNat, Int.reduceLE, Int.reduceLT, Int.reduceEq, Int.reduceAdd, ↓reduceIte, decide_true, decide_false, and_self]
            exact ⟨_, _, rfl, rfl, .of_eq (by rw [sameB_eq h1 h2 h3 h4 h5]; rfl), rfl⟩
          · rw [decide_eq_false h5]
            simp (maxSteps := 200000) only [push_cast, List.getD_cons_zero, List.getD_cons_succ, List.take_succ_cons, List.take_zero, List.drop_succ_cons, Nat.reduceLT, Nat.reduceLeDiff, Nat.reduceEqDiff, Nat.reduceAdd, Nat.reduceMul, Nat.reduceSub, Int.reduceToNat, Int.reduceLE, Int.reduceLT, Int.reduceEq, Int.reduceAdd, ↓reduceIte, decide_true, decide_false, and_self]
            exact ⟨_, _, rfl, rfl, .of_eq (by rw [sameB_ne (fun e => h5 (by rw [e]))]; rfl), rfl⟩
        · have h4' : (f.text == g.text) = false := by simpa using h4
          rw [h4']
          simp (maxSteps := 200000) only [push_cast, List.getD_cons_zero, List.getD_cons_succ, List.take_succ_cons, List.take_zero, List.drop_succ_cons, Nat.reduceLT, Nat.reduceLeDiff, Nat.reduceEqDiff, Nat.reduceAdd, Nat.reduceMul, Nat.reduceSub, Int.reduceToNat, Int.reduceLE, Int.reduceLT, Int.reduceEq, Int.reduceAdd, ↓reduceIte, decide_true, decide_false, and_self]
          exact ⟨_, _, rfl, rfl, .of_eq (by rw [sameB_ne (fun e => h4 (by rw [e]))]; rfl), rfl⟩
      · simp (maxSteps := 200000) only [Try.f52, fCells, h1', h2, h3, beq_self_eq_true, Bool.false_and, Bool.and_false, push_cast, List.getD_cons_zero, List.getD_cons_succ, List.take_succ_cons, List.take_zero, List.drop_succ_cons, Nat.reduceLT, Nat.reduceLeDiff, Nat.reduceEqDiff, Nat.reduceAdd, Nat.reduceMul, Nat.reduceSub, Int.reduceToNat, Int.reduceLE, Int.reduceLT, Int.reduceEq, Int.reduceAdd, ↓reduceIte, decide_true, decide_false, and_self]
        exact ⟨_, _, rfl, rfl, .of_eq (by rw [sameB_ne (fun e => h3 (by rw [e]))]; rfl), rfl⟩
    · simp (maxSteps := 200000) only [Try.f52, fCells, h1', h2, Bool.false_and, Bool.and_false, push_cast, List.getD_cons_zero, List.getD_cons_succ, List.take_succ_cons, List.take_zero, List.drop_succ_cons, Nat.reduceLT, Nat.reduceLeDiff, Nat.reduceEqDiff, Nat.reduceAdd, Nat.reduceMul, Nat.reduceSub, Int.reduceToNat, Int.reduceLE, Int.reduceLT, Int.reduceEq, Int.reduceAdd, ↓reduceIte, decide_true, decide_false, and_self]
      exact ⟨_, _, rfl, rfl, .of_eq (by rw [sameB_ne (fun e => h2 (by rw [e]))]; rfl), rfl⟩
  · have h1' : (f.tag == g.tag) = false := by simpa using h1
    simp (maxSteps := 200000) only [Try.f52, fCells, h1', push_cast, List.getD_cons_zero, List.getD_cons_succ, List.take_succ_cons, List.take_zero, List.drop_succ_cons, Nat.reduceLT, Nat.reduceLeDiff, Nat.reduceEqDiff, Nat.reduceAdd, Nat.reduceMul, Nat.reduceSub, Int.reduceToNat, Int.reduceLE, Int.reduceLT, Int.reduceEq, Int.reduceAdd, ↓reduceIte, decide_true, decide_false, and_self]
    exact ⟨_, _, rfl, rfl, .of_eq (by rw [sameB_ne (fun e => h1 (by rw [e]))]; rfl), rfl⟩
end Go.Proofs.Yteapibifebnboaa

/- field: what is parsed has these bytes, as plain lists. -/
set_option linter.unusedVariables false
namespace Go.Proofs.Yteapibifebnboaa
open Go Go.Eng
theorem oneOf_take {l : List Int} (h : ¬ (oneOf l).2.2.1 < 0) : l.take (oneOf l).2.2.1.toNat = subB ((oneOf l).1, (oneOf l).2.1) ∧ (oneOf l).2.2.1.toNat ≤ l.length := by
  unfold oneOf at h ⊢
  split at h
  · exact absurd (by decide) h
  · rename_i h1
    split at h
    · exact absurd (by decide) h
    · rename_i h2
      rw [if_neg h1, if_neg h2]
      simp only [Int.toNat_natCast]
      match l, h1, h2 with
      | [], h1, _ => exact absurd (.inl (by simp)) h1
      | [a], _, h2 => exact absurd (.inl (by simp)) h2
      | a :: c :: m, h1, _ =>
        have ha : a = 31 := Classical.byContradiction fun e => h1 (.inr (by simpa using e))
        subst ha
        have hp : m.takeWhile freeB = m.take (m.takeWhile freeB).length := (List.prefix_iff_eq_take.1 (List.takeWhile_prefix freeB))
        have hle : (m.takeWhile freeB).length ≤ m.length := (List.takeWhile_prefix freeB).length_le
        have hd : (31 :: c :: m : List Int).drop 2 = m := rfl
        rw [hd, show 2 + (m.takeWhile freeB).length = (m.takeWhile freeB).length + 1 + 1 by omega, List.take_succ_cons, List.take_succ_cons, ← hp]
        exact ⟨rfl, by simp only [List.length_cons]; omega⟩
theorem subsP_flat : ∀ (K : Nat) (rest : List Int) (at_ : Nat), rest.length < K → (subsP K rest at_).1 < 0 → (subsP K rest at_).2.flatMap subB = rest
  | 0, rest, at_, hk, _ => by omega
  | K + 1, rest, at_, hk, h => by
    have ho := oneOf_at rest
    unfold subsP at h ⊢
    simp only at h ⊢
    split at h
    · simp only at h; omega
    · rename_i h1
      rw [if_neg h1]
      obtain ⟨ht, hl⟩ := oneOf_take h1
      split at h
      · rename_i h2
        rw [if_pos h2]
        rw [List.take_of_length_le h2] at ht
        simp only [List.flatMap_cons, List.flatMap_nil, List.append_nil]
        exact ht.symm
      · rename_i h2
        rw [if_neg h2]
        have hpos : 0 < (oneOf rest).2.2.1.toNat := by
          have : (subB ((oneOf rest).1, (oneOf rest).2.1)).length = (rest.take (oneOf rest).2.2.1.toNat).length := by rw [ht]
          rw [List.length_take] at this
          simp only [subB, List.length_cons] at this
          omega
        have ih := subsP_flat K (rest.drop (oneOf rest).2.2.1.toNat) (at_ + (oneOf rest).2.2.1.toNat) (by rw [List.length_drop]; omega) h
        simp only [List.flatMap_cons]
        rw [ih, ← ht, List.take_append_drop]
theorem fparse_bytes {tag b : List Int} {g : FV} (h : fparse tag b = .inr g) : fbytes g = b ∧ g.tag = tag ∧ (ctl tag = false → g.text = []) ∧ (ctl tag = true → g.subs = []) := by
  unfold fparse at h
  split at h
  · cases h
  · split at h
    · rename_i hc
      split at h
      · cases h
        unfold fbytes
        rw [if_pos hc]
        exact ⟨rfl, rfl, fun e => (by rw [hc] at e; cases e), fun _ => rfl⟩
      · cases h
    · rename_i hc
      split at h
      · cases h
      · rename_i h2
        split at h
        · cases h
        · rename_i h3
          split at h
          · rename_i h4
            cases h
            unfold fbytes
            rw [if_neg hc]
            have hf := subsP_flat _ _ _ (by rw [List.length_drop]; omega) h4
            refine ⟨?_, rfl, fun _ => rfl, fun e => absurd e hc⟩
            show b.getD 0 0 :: b.getD 1 0 :: _ = b
            rw [hf]
            match b, h2, h3 with
            | [], h2, _ => exact absurd (.inl (by simp)) h2
            | [a], _, h3 => exact absurd (.inl (by simp)) h3
            | a :: c :: m, _, _ => rfl
          · cases h
theorem fparse_good {tag b : List Int} {g : FV} (h : fparse tag b = .inr g) : goodF g = true := by
  obtain ⟨h1, h2, _⟩ := fparse_bytes h
  unfold goodF
  rw [h1, h2, h]
  exact decide_eq_true rfl
theorem fparse_FB {tag b : List Int} {g : FV} (h : fparse tag b = .inr g) (hb : inB b) : FB g := by
  obtain ⟨h1, h2, h3, h4⟩ := fparse_bytes h
  cases hc : ctl tag with
  | true =>
    have e : g.text = b := by
      unfold fbytes at h1
      rw [if_pos (by rw [h2]; exact hc)] at h1; exact h1
    refine ⟨by rw [e]; exact hb, fun s hs => by rw [h4 hc] at hs; cases hs⟩
  | false =>
    have hm : ∀ s ∈ g.subs, ∀ c ∈ subB s, c ∈ b := fun s hs c hcs => by
      rw [← h1]
      unfold fbytes
      rw [if_neg (by rw [h2, hc]; simp)]
      exact List.mem_cons_of_mem _ (List.mem_cons_of_mem _ (List.mem_flatMap.2 ⟨s, hs, hcs⟩))
    refine ⟨(by rw [h3 hc]; intro c hc; cases hc), fun s hs => ⟨?_, fun c hcs => ?_⟩⟩
    · exact hb _ (hm s hs _ (List.mem_cons_of_mem _ (List.mem_cons_self ..)))
    · exact hb _ (hm s hs _ (List.mem_cons_of_mem _ (List.mem_cons_of_mem _ hcs)))
theorem fbytes_inB {f g : FV} (hF : FB f) (h : fparse f.tag (fbytes f) = .inr g) : inB (fbytes f) := by
  cases hc : ctl f.tag with
  | true => rw [show fbytes f = f.text by unfold fbytes; rw [if_pos hc]]; exact hF.text
  | false =>
    have e : fbytes f = f.i0 :: f.i1 :: f.subs.flatMap subB := by unfold fbytes; rw [if_neg (by rw [hc]; simp)]
    rw [e] at h ⊢
    have hI : ∀ {c : Int}, indB c = true → 0 ≤ c ∧ c < 256 := fun {c} h => by
      simp only [indB, Bool.and_eq_true, decide_eq_true_eq] at h; omega
    have h01 : indB f.i0 = true ∧ indB f.i1 = true := by
      unfold fparse at h
      split at h
      · cases h
      · rw [if_neg (by rw [hc]; simp)] at h
        split at h
        · cases h
        · rename_i h2
          split at h
          · cases h
          · rename_i h3
            simp only [not_or, List.getD_cons_zero, List.getD_cons_succ, Bool.not_eq_false] at h2 h3
            exact ⟨h2.2, h3.2⟩
    intro c hcm
    rcases List.mem_cons.1 hcm with rfl | hcm
    · exact hI h01.1
    · rcases List.mem_cons.1 hcm with rfl | hcm
      · exact hI h01.2
      · obtain ⟨s, hs, hcs⟩ := List.mem_flatMap.1 hcm
        rcases List.mem_cons.1 hcs with rfl | hcs
        · decide
        · rcases List.mem_cons.1 hcs with rfl | hcs
          · exact (hF.subs s hs).1
          · exact (hF.subs s hs).2 c hcs
theorem fparse_two {tag : List Int} {x y : Int} (hc : ctl tag = false) : ∃ a, fparse tag [x, y] = .inl a := by
  unfold fparse
  split
  · exact ⟨_, rfl⟩
  · rw [if_neg (by rw [hc]; simp)]
    split
    · exact ⟨_, rfl⟩
    · split
      · exact ⟨_, rfl⟩
      · rw [if_neg (show ¬ (subsP ([x, y].length + 1) (List.drop 2 [x, y]) 2).1 < 0 from (by decide : ¬ (subsP 3 [] 2).1 < 0))]; exact ⟨_, rfl⟩
theorem fparse_sizes {tag b : List Int} {g : FV} (h : fparse tag b = .inr g) : g.subs.length ≤ b.length ∧ g.text.length ≤ b.length ∧ ∀ s ∈ g.subs, s.2.length ≤ b.length := by
  obtain ⟨h1, h2, h3, h4⟩ := fparse_bytes h
  cases hc : ctl tag with
  | true =>
    have e : g.text = b := by
      unfold fbytes at h1
      rw [if_pos (by rw [h2]; exact hc)] at h1; exact h1
    rw [h4 hc, e]
    exact ⟨Nat.zero_le _, Nat.le_refl _, fun s hs => by cases hs⟩
  | false =>
    have e : b.length = (g.subs.flatMap subB).length + 2 := by
      rw [← h1]; unfold fbytes; rw [if_neg (by rw [h2, hc]; simp)]; rfl
    have hcnt := flat_cnt g.subs
    rw [h3 hc]
    exact ⟨by omega, Nat.zero_le _, fun s hs => by have := sub_len_le hs; omega⟩
end Go.Proofs.Yteapibifebnboaa

/- field.Print -/
set_option linter.unusedVariables false
set_option linter.unusedSimpArgs false
namespace Go.Proofs.Yteapibifebnboaa
open Go Go.Eng
def prR (f : FV) : AV := if goodF f = true then .tup [.sl (fbytes f).length (u8s (fbytes f)), .bool true] else .tup [.sl 0 [], .bool false]
theorem prR_bad {f : FV} {a : Int} (h : fparse f.tag (fbytes f) = .inl a) : prR f = .tup [.sl 0 [], .bool false] := by
  unfold prR goodF
  rw [h, if_neg (by simp)]
theorem FParse_m (tag b : List Int) (n : Nat) (hn : b.length = n) (ht : tag.length ≤ 9223372036854775807) (hl : n ≤ 1099511627776) : ACall Try.prog 26 [.str tag, .sl n (u8s b)] (fres (fparse tag b)) none := by
  subst hn; exact FParse_c tag b ht hl
theorem frz_own (t gt : Nat) (l : List Int) : Frz t ⟨gt, 1, u8s l⟩ (.own t gt 0 l.length) (.sl l.length (u8s l)) := by
  have := Frz.own (t := t) (T := ⟨gt, 1, u8s l⟩) 0 l.length (by simp [u8s])
  have e : ((u8s l).drop 0).take (l.length * 1) = u8s l := List.take_of_length_le (by simp [u8s])
  rw [show ((⟨gt, 1, u8s l⟩ : Tok).cs.drop 0).take (l.length * (⟨gt, 1, u8s l⟩ : Tok).sz) = u8s l from e] at this
  exact this
set_option maxRecDepth 100000 in
set_option maxHeartbeats 8000000 in
theorem Print_c (f : FV) (hF : FB f) (ht : f.tag.length ≤ 9223372036854775807) (hx : f.text.length ≤ 140737488355328) (hb : (fbytes f).length ≤ 1099511627776) (hn : f.subs.length ≤ 1099511627776) :
    ACall Try.prog 30 [.agg (fCells f)] (prR f) none := by
  have hcf : closedL (subCells f.subs) = true := subCells_closed _
  have hng : ∀ {a : Int}, fparse f.tag (fbytes f) = .inl a → prR f = .tup [.sl 0 [], .bool false] := fun h => prR_bad h
  refine acall_intro none Try.func30 rfl (by kernel_rfl) (by simp [Try.f30]) ?_
  refine ex_run 30 ?_
  simp (maxSteps := 200000) only [Try.f30, fCells, hcf, push_cast, List.getD_cons_zero, List.getD_cons_succ, List.take_succ_cons, List.take_zero, List.drop_succ_cons, Nat.reduceLT, Nat.reduceLeDiff, Nat.reduceEqDiff, Nat.reduceAdd, Nat.reduceMul, Nat.reduceSub, Int.reduceToNat, Int.reduceLE, Int.reduceLT, Int.reduceEq, Int.reduceAdd, ↓reduceIte, decide_true, decide_false, and_self]
  refine call_intro (Control_c f.tag ht) (fun h => by cases h) ?_
  cases hc : List.isPrefixOf [48, 48] f.tag with
  | true =>
    have hfb : fbytes f = f.text := by unfold fbytes; rw [if_pos (show ctl f.tag = true from hc)]
    simp (maxSteps := 200000) only [push_cast, List.getD_cons_zero, List.getD_cons_succ, List.take_succ_cons, List.take_zero, List.drop_succ_cons, Nat.reduceLT, Nat.reduceLeDiff, Nat.reduceEqDiff, Nat.reduceAdd, Nat.reduceMul, Nat.reduceSub, Int.reduceToNat, Int.reduceLE, Int.reduceLT, Int.reduceEq, Int.reduceAdd, ↓reduceIte, decide_true, decide_false, and_self]
    refine call_intro (Clone_c f.text hx) (fun h => by cases h) ?_
    simp (maxSteps := 200000) only [push_cast, List.getD_cons_zero, List.getD_cons_succ, List.take_succ_cons, List.take_zero, List.drop_succ_cons, Nat.reduceLT, Nat.reduceLeDiff, Nat.reduceEqDiff, Nat.reduceAdd, Nat.reduceMul, Nat.reduceSub, Int.reduceToNat, Int.reduceLE, Int.reduceLT, Int.reduceEq, Int.reduceAdd, ↓reduceIte, decide_true, decide_false, and_self]
    refine call_intro (FParse_c f.tag f.text ht (by rw [← hfb]; exact hb)) (fun h => by cases h) ?_
    cases hp : fparse f.tag f.text with
    | inl a =>
      simp (maxSteps := 200000) only [fres, fCells, zeroF, subCells_nil, u8s_nil, hcf, push_cast, List.getD_cons_zero, List.getD_cons_succ, List.take_succ_cons, List.take_zero, List.drop_succ_cons, Nat.reduceLT, Nat.reduceLeDiff, Nat.reduceEqDiff, Nat.reduceAdd, Nat.reduceMul, Nat.reduceSub, Int.reduceToNat, Int.reduceLE, Int.reduceLT, Int.reduceEq, Int.reduceAdd, ↓reduceIte, decide_true, decide_false, and_self]
      rw [hng (by rw [hfb, hp])]
      exact ⟨[.nilS, .bool false], [.nilS, .bool false], by kernel_rfl, by simp [outA, outV, outC, AV.closed], sub_tup ⟨.nil, .refl _, trivial⟩, rfl⟩
    | inr g =>
      have hcg : closedL (subCells g.subs) = true := subCells_closed _
      have hFg : FB g := fparse_FB hp hF.text
      simp (maxSteps := 200000) only [fres, fCells, hcf, hcg, push_cast, List.getD_cons_zero, List.getD_cons_succ, List.take_succ_cons, List.take_zero, List.drop_succ_cons, Nat.reduceLT, Nat.reduceLeDiff, Nat.reduceEqDiff, Nat.reduceAdd, Nat.reduceMul, Nat.reduceSub, Int.reduceToNat, Int.reduceLE, Int.reduceLT, Int.reduceEq, Int.reduceAdd, ↓reduceIte, decide_true, decide_false, and_self]
      refine call_intro (psame_c f g hF hFg (by omega)) (fun h => by cases h) ?_
      have hge : goodF f = sameB f g := by unfold goodF; rw [hfb, hp]
      cases hs : sameB f g with
      | false =>
        simp (maxSteps := 200000) only [push_cast, List.getD_cons_zero, List.getD_cons_succ, List.take_succ_cons, List.take_zero, List.drop_succ_cons, Nat.reduceLT, Nat.reduceLeDiff, Nat.reduceEqDiff, Nat.reduceAdd, Nat.reduceMul, Nat.reduceSub, Int.reduceToNat, Int.reduceLE, Int.reduceLT, Int.reduceEq, Int.reduceAdd, ↓reduceIte, decide_true, decide_false, and_self]
        unfold prR
        rw [hge, hs, if_neg (by simp)]
        exact ⟨[.nilS, .bool false], [.nilS, .bool false], by kernel_rfl, by simp [outA, outV, outC, AV.closed], sub_tup ⟨.nil, .refl _, trivial⟩, rfl⟩
      | true =>
        simp (maxSteps := 200000) only [push_cast, List.getD_cons_zero, List.getD_cons_succ, List.take_succ_cons, List.take_zero, List.drop_succ_cons, Nat.reduceLT, Nat.reduceLeDiff, Nat.reduceEqDiff, Nat.reduceAdd, Nat.reduceMul, Nat.reduceSub, Int.reduceToNat, Int.reduceLE, Int.reduceLT, Int.reduceEq, Int.reduceAdd, ↓reduceIte, decide_true, decide_false, and_self]
        unfold prR
        rw [hge, hs, if_pos rfl, hfb]
        exact ⟨[.sl (f.text).length (u8s (f.text)), .bool true], [.sl (f.text).length (u8s (f.text)), .bool true], by kernel_rfl, by simp [outA, outV, outC, AV.closed, u8s_closed], .refl _, rfl⟩
  | false =>
    have hfb : fbytes f = f.i0 :: f.i1 :: f.subs.flatMap subB := by unfold fbytes; rw [if_neg (by show ¬ ctl f.tag = true; unfold ctl; rw [hc]; simp)]
    simp (maxSteps := 200000) only [hcf, push_cast, List.getD_cons_zero, List.getD_cons_succ, List.take_succ_cons, List.take_zero, List.drop_succ_cons, Nat.reduceLT, Nat.reduceLeDiff, Nat.reduceEqDiff, Nat.reduceAdd, Nat.reduceMul, Nat.reduceSub, Int.reduceToNat, Int.reduceLE, Int.reduceLT, Int.reduceEq, Int.reduceAdd, ↓reduceIte, decide_true, decide_false, and_self]
    have hbl : (f.subs.flatMap subB).length + 2 ≤ 1099511627776 := by rw [hfb] at hb; simpa using hb
    have hcnt := flat_cnt f.subs
    refine run_keep (l' := [(20, .int .i64 0), (19, .int .i64 f.subs.length), (18, .sl f.subs.length (subCells f.subs)), (4, .arr 1 0 2 2), (1, .addr 1 0 0)]) (t' := [(1, ⟨0, 1, fCells f⟩)]) (nx' := _) ⟨.refl _, .refl _, .refl _, .refl _, .refl _, trivial⟩ ⟨⟨_, rfl, rfl, rfl, SubL.refl _⟩, trivial⟩ (Nat.le_refl _) ?_
    refine run_loop (fun n s => ∃ (i g nx : Nat), i ≤ f.subs.length ∧ n = f.subs.length - i ∧
      ((i = 0 ∧ s = mkS [(20, .int .i64 i), (19, .int .i64 f.subs.length), (18, .sl f.subs.length (subCells f.subs)), (4, .arr 1 0 2 2), (1, .addr 1 0 0)] [(1, ⟨0, 1, fCells f⟩)] nx) ∨
       (0 < i ∧ s = mkS [(20, .int .i64 i), (19, .int .i64 f.subs.length), (18, .sl f.subs.length (subCells f.subs)), (4, .own 28 g 0 (outB f i).length), (1, .addr 1 0 0)] [(28, ⟨g, 1, u8s (outB f i)⟩), (1, ⟨0, 1, fCells f⟩)] nx))) _ ⟨0, 0, _, Nat.zero_le _, rfl, .inl ⟨rfl, rfl⟩⟩ ?_
    rintro n s ⟨i, g, nx, hi, rfl, hs⟩
    by_cases h : i < f.subs.length
    · have r0 := subCells_row f.subs i h
      have hsl := subCells_length f.subs
      have hpos : 0 < f.subs.length * 2 := by omega
      have l0 : i * 2 + 2 ≤ f.subs.length * 2 := by omega
      have hw : IntKind.i64.wrap ((i : Int) + 1) = ((i + 1 : Nat) : Int) := by rw [wrap_i64 (by omega)]; omega
      have hos := outB_succ f i h
      have hle := flat_le f.subs (i + 1)
      have hol : (outB f (i + 1)).length = ((f.subs.take (i + 1)).flatMap subB).length + 2 := by simp [outB]
      have hol2 := congrArg List.length hos
      simp only [List.length_append, List.length_cons] at hol2
      generalize f.subs[i] = q at *
      obtain ⟨c, tx⟩ := q
      simp only [sCells] at r0
      simp only at hos hol2
      have hcx : closedL (u8s tx) = true := u8s_closed tx
      obtain ⟨rfl, rfl⟩ | ⟨hp, rfl⟩ := hs
      · have r00 : (subCells f.subs).take 2 = [AV.int IntKind.u8 c, AV.sl tx.length (u8s tx)] := by simpa using r0
        have hI : (0 : Int) < (f.subs.length : Int) := by omega
        have l00 : 2 ≤ f.subs.length * 2 := by omega
        have hw0 : IntKind.i64.wrap (1 : Int) = 1 := by kernel_rfl
        refine ex_run 40 ?_
        simp (maxSteps := 200000) only [fCells, h, hI, r00, hsl, hpos, l00, hcx, hw0, push_cast, List.getD_cons_zero, List.getD_cons_succ, List.take_succ_cons, List.take_zero, List.drop_succ_cons, Nat.reduceLT, Nat.reduceLeDiff, Nat.reduceEqDiff, Nat.reduceAdd, Nat.reduceMul, Nat.reduceSub, Int.reduceToNat, Int.reduceLE, Int.reduceLT, Int.reduceEq, Int.reduceAdd, ↓reduceIte, decide_true, decide_false, and_self]
        refine ⟨by kernel_rfl, ⟨by omega, by omega⟩, okTr_of (by kernel_rfl), ?_⟩
        have hoc : AV.int .u8 f.i0 :: AV.int .u8 f.i1 :: AV.int .u8 31 :: AV.int .u8 c :: u8s tx = u8s (outB f 1) := by rw [hos]; rfl
        have hol3 : 4 + tx.length = (outB f 1).length := by rw [hos]; simp [outB]; omega
        rw [hoc, hol3]
        refine run_back_le (le_mk (l' := [(20, .int .i64 ((0 + 1 : Nat) : Int)), (19, .int .i64 f.subs.length), (18, .sl f.subs.length (subCells f.subs)), (4, .own 28 _ 0 (outB f 1).length), (1, .addr 1 0 0)]) (t' := [(28, ⟨_, 1, u8s (outB f 1)⟩), (1, ⟨0, 1, fCells f⟩)]) (nx' := _)
          ⟨.refl _, .refl _, .refl _, .refl _, .refl _, trivial⟩ ⟨⟨_, rfl, rfl, rfl, SubL.refl _⟩, ⟨_, rfl, rfl, rfl, SubL.refl _⟩, trivial⟩ (Nat.le_refl _)) ?_
        exact ⟨f.subs.length - (0 + 1), by omega, 0 + 1, _, _, by omega, rfl, .inr ⟨by omega, rfl⟩⟩
      · refine ex_run 40 ?_
        simp (maxSteps := 200000) only [fCells, h, r0, hsl, hpos, l0, hcx, hw, push_cast, List.getD_cons_zero, List.getD_cons_succ, List.take_succ_cons, List.take_zero, List.drop_succ_cons, Nat.reduceLT, Nat.reduceLeDiff, Nat.reduceEqDiff, Nat.reduceAdd, Nat.reduceMul, Nat.reduceSub, Int.reduceToNat, Int.reduceLE, Int.reduceLT, Int.reduceEq, Int.reduceAdd, ↓reduceIte, decide_true, decide_false, and_self]
        refine ⟨by kernel_rfl, ⟨by omega, by omega⟩, ⟨by simp [u8s], by omega, by omega⟩, okTr_of (by kernel_rfl), ?_⟩
        have hoc : u8s (outB f i) ++ [.int .u8 31, .int .u8 c] ++ u8s tx = u8s (outB f (i + 1)) := by rw [hos]; simp [u8s]
        have hol3 : (outB f i).length + 2 + tx.length = (outB f (i + 1)).length := by omega
        rw [hoc, hol3]
        refine run_back_le (le_mk (l' := [(20, .int .i64 ((i + 1 : Nat) : Int)), (19, .int .i64 f.subs.length), (18, .sl f.subs.length (subCells f.subs)), (4, .own 28 _ 0 (outB f (i + 1)).length), (1, .addr 1 0 0)]) (t' := [(28, ⟨_, 1, u8s (outB f (i + 1))⟩), (1, ⟨0, 1, fCells f⟩)]) (nx' := _)
          ⟨.of_eq (congrArg (AV.int .i64) (by omega)), .refl _, .refl _, .refl _, .refl _, trivial⟩ ⟨⟨_, rfl, rfl, rfl, SubL.refl _⟩, ⟨_, rfl, rfl, rfl, SubL.refl _⟩, trivial⟩ (Nat.le_refl _)) ?_
        exact ⟨f.subs.length - (i + 1), by omega, i + 1, _, _, by omega, rfl, .inr ⟨by omega, rfl⟩⟩
    · have hie : i = f.subs.length := by omega
      obtain ⟨rfl, rfl⟩ | ⟨hp, rfl⟩ := hs
      · have h' : ¬ (0 : Int) < (f.subs.length : Int) := by omega
        have h0 : f.subs = [] := List.eq_nil_of_length_eq_zero (by omega)
        refine ex_run 40 ?_
        simp (maxSteps := 200000) only [fCells, h', push_cast, List.getD_cons_zero, List.getD_cons_succ, List.take_succ_cons, List.take_zero, List.drop_succ_cons, Nat.reduceLT, Nat.reduceLeDiff, Nat.reduceEqDiff, Nat.reduceAdd, Nat.reduceMul, Nat.reduceSub, Int.reduceToNat, Int.reduceLE, Int.reduceLT, Int.reduceEq, Int.reduceAdd, ↓reduceIte, decide_true, decide_false, and_self]
        obtain ⟨a, ha⟩ := fparse_two (tag := f.tag) (x := f.i0) (y := f.i1) hc
        have hP := FParse_c f.tag [f.i0, f.i1] ht (by simp)
        rw [ha] at hP
        rw [hng (a := a) (by rw [hfb, h0]; exact ha)]
        refine call_intro hP (fun h => ⟨rfl, fun _ e => by cases e⟩) ?_
        simp (maxSteps := 200000) only [fres, fCells, zeroF, subCells_nil, u8s_nil, hcf, push_cast, List.getD_cons_zero, List.getD_cons_succ, List.take_succ_cons, List.take_zero, List.drop_succ_cons, Nat.reduceLT, Nat.reduceLeDiff, Nat.reduceEqDiff, Nat.reduceAdd, Nat.reduceMul, Nat.reduceSub, Int.reduceToNat, Int.reduceLE, Int.reduceLT, Int.reduceEq, Int.reduceAdd, ↓reduceIte, decide_true, decide_false, and_self]
        exact ⟨[.nilS, .bool false], [.nilS, .bool false], by kernel_rfl, by simp [outA, outV, outC, AV.closed], sub_tup ⟨.nil, .refl _, trivial⟩, rfl⟩
      · refine ex_run 4 ?_
        simp (maxSteps := 200000) only [fCells, h, push_cast, List.getD_cons_zero, List.getD_cons_succ, List.take_succ_cons, List.take_zero, List.drop_succ_cons, Nat.reduceLT, Nat.reduceLeDiff, Nat.reduceEqDiff, Nat.reduceAdd, Nat.reduceMul, Nat.reduceSub, Int.reduceToNat, Int.reduceLE, Int.reduceLT, Int.reduceEq, Int.reduceAdd, ↓reduceIte, decide_true, decide_false, and_self]
        have hob : outB f i = fbytes f := by rw [hfb, hie]; unfold outB; rw [List.take_length]
        rw [hob]
        refine Go.Eng.run_freeze (l' := [(4, .sl (fbytes f).length (u8s (fbytes f))), (1, .addr 1 0 0)]) (tl' := [(1, ⟨0, 1, fCells f⟩)]) 28 ⟨g, 1, u8s (fbytes f)⟩ rfl ⟨frz_own _ _ _, .keep _, trivial⟩ ⟨by decide, ⟨_, rfl, rfl, rfl, FrzL.refl _⟩, trivial⟩ ?_
        refine ex_run 40 ?_
        simp (maxSteps := 200000) only [fCells, push_cast, List.getD_cons_zero, List.getD_cons_succ, List.take_succ_cons, List.take_zero, List.drop_succ_cons, Nat.reduceLT, Nat.reduceLeDiff, Nat.reduceEqDiff, Nat.reduceAdd, Nat.reduceMul, Nat.reduceSub, Int.reduceToNat, Int.reduceLE, Int.reduceLT, Int.reduceEq, Int.reduceAdd, ↓reduceIte, decide_true, decide_false, and_self]
        refine call_intro (FParse_c f.tag (fbytes f) ht hb) (fun h => by cases h) ?_
        cases hp : fparse f.tag (fbytes f) with
        | inl a =>
          simp (maxSteps := 200000) only [fres, fCells, zeroF, subCells_nil, u8s_nil, hcf, push_cast, List.getD_cons_zero, List.getD_cons_succ, List.take_succ_cons, List.take_zero, List.drop_succ_cons, Nat.reduceLT, Nat.reduceLeDiff, Nat.reduceEqDiff, Nat.reduceAdd, Nat.reduceMul, Nat.reduceSub, Int.reduceToNat, Int.reduceLE, Int.reduceLT, Int.reduceEq, Int.reduceAdd, ↓reduceIte, decide_true, decide_false, and_self]
          rw [hng hp]
          exact ⟨[.nilS, .bool false], [.nilS, .bool false], by kernel_rfl, by simp [outA, outV, outC, AV.closed], sub_tup ⟨.nil, .refl _, trivial⟩, rfl⟩
        | inr g =>
          have hcg : closedL (subCells g.subs) = true := subCells_closed _
          have hFg : FB g := fparse_FB hp (fbytes_inB hF hp)
          simp (maxSteps := 200000) only [fres, fCells, hcf, hcg, push_cast, List.getD_cons_zero, List.getD_cons_succ, List.take_succ_cons, List.take_zero, List.drop_succ_cons, Nat.reduceLT, Nat.reduceLeDiff, Nat.reduceEqDiff, Nat.reduceAdd, Nat.reduceMul, Nat.reduceSub, Int.reduceToNat, Int.reduceLE, Int.reduceLT, Int.reduceEq, Int.reduceAdd, ↓reduceIte, decide_true, decide_false, and_self]
          refine call_intro (psame_c f g hF hFg (by omega)) (fun h => by cases h) ?_
          have hge : goodF f = sameB f g := by unfold goodF; rw [hp]
          cases hs : sameB f g with
          | false =>
            simp (maxSteps := 200000) only [push_cast, List.getD_cons_zero, List.getD_cons_succ, List.take_succ_cons, List.take_zero, List.drop_succ_cons, Nat.reduceLT, Nat.reduceLeDiff, Nat.reduceEqDiff, Nat.reduceAdd, Nat.reduceMul, Nat.reduceSub, Int.reduceToNat, Int.reduceLE, Int.reduceLT, Int.reduceEq, Int.reduceAdd, ↓reduceIte, decide_true, decide_false, and_self]
            unfold prR
            rw [hge, hs, if_neg (by simp)]
            exact ⟨[.nilS, .bool false], [.nilS, .bool false], by kernel_rfl, by simp [outA, outV, outC, AV.closed], sub_tup ⟨.nil, .refl _, trivial⟩, rfl⟩
          | true =>
            simp (maxSteps := 200000) only [push_cast, List.getD_cons_zero, List.getD_cons_succ, List.take_succ_cons, List.take_zero, List.drop_succ_cons, Nat.reduceLT, Nat.reduceLeDiff, Nat.reduceEqDiff, Nat.reduceAdd, Nat.reduceMul, Nat.reduceSub, Int.reduceToNat, Int.reduceLE, Int.reduceLT, Int.reduceEq, Int.reduceAdd, ↓reduceIte, decide_true, decide_false, and_self]
            unfold prR
            rw [hge, hs, if_pos rfl]
            exact ⟨[.sl ((fbytes f)).length (u8s ((fbytes f))), .bool true], [.sl ((fbytes f)).length (u8s ((fbytes f))), .bool true], by kernel_rfl, by simp [outA, outV, outC, AV.closed, u8s_closed], .refl _, rfl⟩
end Go.Proofs.Yteapibifebnboaa

/- The law FieldParses: at every argument it returns true. -/
set_option linter.unusedVariables false
set_option linter.unusedSimpArgs false
namespace Go.Proofs.Yteapibifebnboaa
open Go Go.Eng
theorem sameB_refl (f : FV) : sameB f f = true := decide_eq_true rfl
set_option maxRecDepth 100000 in
set_option maxHeartbeats 8000000 in
theorem FieldParses_c (tag b : List Int) (ht : tag.length ≤ 140737488351232) (hl : b.length ≤ 140737488351232) (hb : inB b) : ACall Try.prog 7 [.str tag, .sl b.length (u8s b)] (.bool true) none := by
  refine acall_intro none Try.func7 rfl (by kernel_rfl) (by simp [Try.f7]) ?_
  by_cases h1 : 3000 < b.length
  · have h1' : (3000 : Int) < (b.length : Int) := by omega
    refine ex_run 30 ?_
    simp (maxSteps := 200000) only [Try.f7, h1', push_cast, List.getD_cons_zero, List.getD_cons_succ, List.take_succ_cons, List.take_zero, List.drop_succ_cons, Nat.reduceLT, Nat.reduceLeDiff, Nat.reduceEqDiff, Nat.reduceAdd, Nat.reduceMul, Nat.reduceSub, Int.reduceToNat, Int.reduceLE, Int.reduceLT, Int.reduceEq, Int.reduceAdd, ↓reduceIte, decide_true, decide_false, and_self]
    refine call_intro answers21_c (fun h => by cases h) ?_
    simp (maxSteps := 200000) only [push_cast, List.getD_cons_zero, List.getD_cons_succ, List.take_succ_cons, List.take_zero, List.drop_succ_cons, Nat.reduceLT, Nat.reduceLeDiff, Nat.reduceEqDiff, Nat.reduceAdd, Nat.reduceMul, Nat.reduceSub, Int.reduceToNat, Int.reduceLE, Int.reduceLT, Int.reduceEq, Int.reduceAdd, ↓reduceIte, decide_true, decide_false, and_self]
    exact ⟨_, _, rfl, rfl, .refl _, rfl⟩
  · have h1' : ¬ (3000 : Int) < (b.length : Int) := by omega
    by_cases h2 : 100 < tag.length
    · have h2' : (100 : Int) < (tag.length : Int) := by omega
      refine ex_run 30 ?_
      simp (maxSteps := 200000) only [Try.f7, h1', h2', push_cast, List.getD_cons_zero, List.getD_cons_succ, List.take_succ_cons, List.take_zero, List.drop_succ_cons, Nat.reduceLT, Nat.reduceLeDiff, Nat.reduceEqDiff, Nat.reduceAdd, Nat.reduceMul, Nat.reduceSub, Int.reduceToNat, Int.reduceLE, Int.reduceLT, Int.reduceEq, Int.reduceAdd, ↓reduceIte, decide_true, decide_false, and_self]
      refine call_intro answers21_c (fun h => by cases h) ?_
      simp (maxSteps := 200000) only [push_cast, List.getD_cons_zero, List.getD_cons_succ, List.take_succ_cons, List.take_zero, List.drop_succ_cons, Nat.reduceLT, Nat.reduceLeDiff, Nat.reduceEqDiff, Nat.reduceAdd, Nat.reduceMul, Nat.reduceSub, Int.reduceToNat, Int.reduceLE, Int.reduceLT, Int.reduceEq, Int.reduceAdd, ↓reduceIte, decide_true, decide_false, and_self]
      exact ⟨_, _, rfl, rfl, .refl _, rfl⟩
    · have h2' : ¬ (100 : Int) < (tag.length : Int) := by omega
      refine ex_run 8 ?_
      simp (maxSteps := 200000) only [Try.f7, h1', h2', push_cast, List.getD_cons_zero, List.getD_cons_succ, List.take_succ_cons, List.take_zero, List.drop_succ_cons, Nat.reduceLT, Nat.reduceLeDiff, Nat.reduceEqDiff, Nat.reduceAdd, Nat.reduceMul, Nat.reduceSub, Int.reduceToNat, Int.reduceLE, Int.reduceLT, Int.reduceEq, Int.reduceAdd, ↓reduceIte, decide_true, decide_false, and_self]
      refine run_region_cut 4 (by decide) ?_
      simp (maxSteps := 200000) only [List.toList_toArray, push_cast, List.getD_cons_zero, List.getD_cons_succ, List.take_succ_cons, List.take_zero, List.drop_succ_cons, Nat.reduceLT, Nat.reduceLeDiff, Nat.reduceEqDiff, Nat.reduceAdd, Nat.reduceMul, Nat.reduceSub, Int.reduceToNat, Int.reduceLE, Int.reduceLT, Int.reduceEq, Int.reduceAdd, ↓reduceIte, decide_true, decide_false, and_self]
      refine ⟨⟨by omega, by omega⟩, mkS [(24, .sl b.length (u8s b)), (21, .str tag), (4, .bool false), (0, .str tag), (1, .sl b.length (u8s b))] [] 21,
        freeze_leU 22 ⟨12, 1, u8s b⟩ rfl ⟨frz_own _ _ _, .keep _, .keep _, .keep _, .keep _, trivial⟩ trivial, rfl, ?_⟩
      simp (maxSteps := 200000) only [List.toList_toArray, push_cast, List.getD_cons_zero, List.getD_cons_succ, List.take_succ_cons, List.take_zero, List.drop_succ_cons, Nat.reduceLT, Nat.reduceLeDiff, Nat.reduceEqDiff, Nat.reduceAdd, Nat.reduceMul, Nat.reduceSub, Int.reduceToNat, Int.reduceLE, Int.reduceLT, Int.reduceEq, Int.reduceAdd, ↓reduceIte, decide_true, decide_false, and_self]
      refine call_intro (FParse_c tag b (by omega) (by omega)) (fun h => by cases h) ?_
      cases hp : fparse tag b with
      | inl a =>
        have hz : closedL (subCells zeroF.subs) = true := rfl
        simp (maxSteps := 200000) only [fres, fCells, zeroF, subCells_nil, u8s_nil, push_cast, List.getD_cons_zero, List.getD_cons_succ, List.take_succ_cons, List.take_zero, List.drop_succ_cons, Nat.reduceLT, Nat.reduceLeDiff, Nat.reduceEqDiff, Nat.reduceAdd, Nat.reduceMul, Nat.reduceSub, Int.reduceToNat, Int.reduceLE, Int.reduceLT, Int.reduceEq, Int.reduceAdd, ↓reduceIte, decide_true, decide_false, and_self]
        refine ex_run 30 ?_
        simp (maxSteps := 200000) only [push_cast, List.getD_cons_zero, List.getD_cons_succ, List.take_succ_cons, List.take_zero, List.drop_succ_cons, Nat.reduceLT, Nat.reduceLeDiff, Nat.reduceEqDiff, Nat.reduceAdd, Nat.reduceMul, Nat.reduceSub, Int.reduceToNat, Int.reduceLE, Int.reduceLT, Int.reduceEq, Int.reduceAdd, ↓reduceIte, decide_true, decide_false, and_self]
        refine call_intro (rfield_c tag b (by omega) (by omega)) (fun h => by cases h) ?_
        rw [hp]
        simp (maxSteps := 200000) only [fres, fCells, zeroF, subCells_nil, u8s_nil, push_cast, List.getD_cons_zero, List.getD_cons_succ, List.take_succ_cons, List.take_zero, List.drop_succ_cons, Nat.reduceLT, Nat.reduceLeDiff, Nat.reduceEqDiff, Nat.reduceAdd, Nat.reduceMul, Nat.reduceSub, Int.reduceToNat, Int.reduceLE, Int.reduceLT, Int.reduceEq, Int.reduceAdd, ↓reduceIte, decide_true, decide_false, and_self]
        refine call_intro answers21_c (fun h => by cases h) ?_
        simp (maxSteps := 200000) only [beq_self_eq_true, Bool.and_self, Bool.not_true, push_cast, List.getD_cons_zero, List.getD_cons_succ, List.take_succ_cons, List.take_zero, List.drop_succ_cons, Nat.reduceLT, Nat.reduceLeDiff, Nat.reduceEqDiff, Nat.reduceAdd, Nat.reduceMul, Nat.reduceSub, Int.reduceToNat, Int.reduceLE, Int.reduceLT, Int.reduceEq, Int.reduceAdd, ↓reduceIte, decide_true, decide_false, and_self]
        refine call_intro (rsame_c zeroF zeroF (by decide) (by intro s hs; cases hs) (by decide)) (fun h => by cases h) ?_
        rw [sameB_refl]
        simp (maxSteps := 200000) only [push_cast, List.getD_cons_zero, List.getD_cons_succ, List.take_succ_cons, List.take_zero, List.drop_succ_cons, Nat.reduceLT, Nat.reduceLeDiff, Nat.reduceEqDiff, Nat.reduceAdd, Nat.reduceMul, Nat.reduceSub, Int.reduceToNat, Int.reduceLE, Int.reduceLT, Int.reduceEq, Int.reduceAdd, ↓reduceIte, decide_true, decide_false, and_self]
        exact ⟨_, _, rfl, rfl, .refl _, rfl⟩
      | inr g => 
        have hcg : closedL (subCells g.subs) = true := subCells_closed _
        simp (maxSteps := 200000) only [fres, fCells, hcg, push_cast, List.getD_cons_zero, List.getD_cons_succ, List.take_succ_cons, List.take_zero, List.drop_succ_cons, Nat.reduceLT, Nat.reduceLeDiff, Nat.reduceEqDiff, Nat.reduceAdd, Nat.reduceMul, Nat.reduceSub, Int.reduceToNat, Int.reduceLE, Int.reduceLT, Int.reduceEq, Int.reduceAdd, ↓reduceIte, decide_true, decide_false, and_self]
        refine ex_run 30 ?_
        simp (maxSteps := 200000) only [push_cast, List.getD_cons_zero, List.getD_cons_succ, List.take_succ_cons, List.take_zero, List.drop_succ_cons, Nat.reduceLT, Nat.reduceLeDiff, Nat.reduceEqDiff, Nat.reduceAdd, Nat.reduceMul, Nat.reduceSub, Int.reduceToNat, Int.reduceLE, Int.reduceLT, Int.reduceEq, Int.reduceAdd, ↓reduceIte, decide_true, decide_false, and_self]
        refine call_intro (rfield_c tag b (by omega) (by omega)) (fun h => by cases h) ?_
        rw [hp]
        simp (maxSteps := 200000) only [fres, fCells, hcg, push_cast, List.getD_cons_zero, List.getD_cons_succ, List.take_succ_cons, List.take_zero, List.drop_succ_cons, Nat.reduceLT, Nat.reduceLeDiff, Nat.reduceEqDiff, Nat.reduceAdd, Nat.reduceMul, Nat.reduceSub, Int.reduceToNat, Int.reduceLE, Int.reduceLT, Int.reduceEq, Int.reduceAdd, ↓reduceIte, decide_true, decide_false, and_self]
        refine call_intro answers21_c (fun h => by cases h) ?_
        simp (maxSteps := 200000) only [hcg, beq_self_eq_true, Bool.and_self, Bool.not_true, push_cast, List.getD_cons_zero, List.getD_cons_succ, List.take_succ_cons, List.take_zero, List.drop_succ_cons, Nat.reduceLT, Nat.reduceLeDiff, Nat.reduceEqDiff, Nat.reduceAdd, Nat.reduceMul, Nat.reduceSub, Int.reduceToNat, Int.reduceLE, Int.reduceLT, Int.reduceEq, Int.reduceAdd, ↓reduceIte, decide_true, decide_false, and_self]
        obtain ⟨z1, z2, z3⟩ := fparse_sizes hp
        obtain ⟨y1, y2, _⟩ := fparse_bytes hp
        have hFg := fparse_FB hp hb
        refine call_intro (rsame_c g g (by omega) (fun s hs => by have := z3 s hs; omega) (by omega)) (fun h => by cases h) ?_
        rw [sameB_refl]
        simp (maxSteps := 200000) only [hcg, push_cast, List.getD_cons_zero, List.getD_cons_succ, List.take_succ_cons, List.take_zero, List.drop_succ_cons, Nat.reduceLT, Nat.reduceLeDiff, Nat.reduceEqDiff, Nat.reduceAdd, Nat.reduceMul, Nat.reduceSub, Int.reduceToNat, Int.reduceLE, Int.reduceLT, Int.reduceEq, Int.reduceAdd, ↓reduceIte, decide_true, decide_false, and_self]
        refine call_intro (Print_c g hFg (by rw [y2]; omega) (by omega) (by rw [y1]; omega) (by omega)) (fun h => by cases h) ?_
        unfold prR
        rw [if_pos (fparse_good hp), y1]
        simp (maxSteps := 200000) only [hcg, push_cast, List.getD_cons_zero, List.getD_cons_succ, List.take_succ_cons, List.take_zero, List.drop_succ_cons, Nat.reduceLT, Nat.reduceLeDiff, Nat.reduceEqDiff, Nat.reduceAdd, Nat.reduceMul, Nat.reduceSub, Int.reduceToNat, Int.reduceLE, Int.reduceLT, Int.reduceEq, Int.reduceAdd, ↓reduceIte, decide_true, decide_false, and_self]
        refine call_intro (same_c b b (by omega)) (fun h => by cases h) ?_
        rw [beq_self_eq_true]
        simp (maxSteps := 200000) only [hcg, push_cast, List.getD_cons_zero, List.getD_cons_succ, List.take_succ_cons, List.take_zero, List.drop_succ_cons, Nat.reduceLT, Nat.reduceLeDiff, Nat.reduceEqDiff, Nat.reduceAdd, Nat.reduceMul, Nat.reduceSub, Int.reduceToNat, Int.reduceLE, Int.reduceLT, Int.reduceEq, Int.reduceAdd, ↓reduceIte, decide_true, decide_false, and_self]
        exact ⟨_, _, rfl, rfl, .refl _, rfl⟩
end Go.Proofs.Yteapibifebnboaa

/- The law FieldPrints: at every argument it returns true. -/
set_option linter.unusedVariables false
set_option linter.unusedSimpArgs false
namespace Go.Proofs.Yteapibifebnboaa
open Go Go.Eng
set_option maxRecDepth 100000 in
set_option maxHeartbeats 8000000 in
theorem FieldPrints_c (f : FV) (h1 : f.tag.length ≤ 140737488351232) (h2 : f.text.length ≤ 140737488351232) (h3 : ∀ s ∈ f.subs, s.2.length ≤ 140737488351232) (h4 : f.subs.length ≤ 140737488351232) (hF : FB f) :
    ACall Try.prog 8 [.agg (fCells f)] (.bool true) none := by
  have hcl : closedL (subCells f.subs) = true := subCells_closed _
  refine acall_intro none Try.func8 rfl (by kernel_rfl) (by simp [Try.f8]) ?_
  refine ex_run 30 ?_
  simp (maxSteps := 200000) only [Try.f8, fCells, hcl, push_cast, List.getD_cons_zero, List.getD_cons_succ, List.take_succ_cons, List.take_zero, List.drop_succ_cons, Nat.reduceLT, Nat.reduceLeDiff, Nat.reduceEqDiff, Nat.reduceAdd, Nat.reduceMul, Nat.reduceSub, Int.reduceToNat, Int.reduceLE, Int.reduceLT, Int.reduceEq, Int.reduceAdd, ↓reduceIte, decide_true, decide_false, and_self]
  refine call_intro (small_c f h1 h2 h3 h4) (fun h => by cases h) ?_
  by_cases hsm : tot f < 20000
  · rw [decide_eq_true hsm]
    have hfb := fbytes_tot f
    have hcnt := flat_cnt f.subs
    have hn : f.subs.length ≤ 20000 := by unfold tot at hsm; omega
    have hx : f.text.length ≤ 20000 := by unfold tot at hsm; omega
    simp (maxSteps := 200000) only [fCells, hcl, push_cast, List.getD_cons_zero, List.getD_cons_succ, List.take_succ_cons, List.take_zero, List.drop_succ_cons, Nat.reduceLT, Nat.reduceLeDiff, Nat.reduceEqDiff, Nat.reduceAdd, Nat.reduceMul, Nat.reduceSub, Int.reduceToNat, Int.reduceLE, Int.reduceLT, Int.reduceEq, Int.reduceAdd, ↓reduceIte, decide_true, decide_false, and_self]
    refine call_intro (Print_c f hF (by omega) (by omega) (by omega) (by omega)) (fun h => by cases h) ?_
    unfold prR
    cases hgd : goodF f with
    | false =>
      rw [if_neg (by simp)]
      simp (maxSteps := 200000) only [fCells, hcl, push_cast, List.getD_cons_zero, List.getD_cons_succ, List.take_succ_cons, List.take_zero, List.drop_succ_cons, Nat.reduceLT, Nat.reduceLeDiff, Nat.reduceEqDiff, Nat.reduceAdd, Nat.reduceMul, Nat.reduceSub, Int.reduceToNat, Int.reduceLE, Int.reduceLT, Int.reduceEq, Int.reduceAdd, ↓reduceIte, decide_true, decide_false, and_self]
      refine call_intro answers21_c (fun h => by cases h) ?_
      simp (maxSteps := 200000) only [fCells, hcl, push_cast, List.getD_cons_zero, List.getD_cons_succ, List.take_succ_cons, List.take_zero, List.drop_succ_cons, Nat.reduceLT, Nat.reduceLeDiff, Nat.reduceEqDiff, Nat.reduceAdd, Nat.reduceMul, Nat.reduceSub, Int.reduceToNat, Int.reduceLE, Int.reduceLT, Int.reduceEq, Int.reduceAdd, ↓reduceIte, decide_true, decide_false, and_self]
      refine call_intro (good_c f (by omega) (by omega) (fun s hs => by have := h3 s hs; omega) (by omega) (by omega)) (fun h => by cases h) ?_
      rw [hgd]
      simp (maxSteps := 200000) only [fCells, hcl, push_cast, List.getD_cons_zero, List.getD_cons_succ, List.take_succ_cons, List.take_zero, List.drop_succ_cons, Nat.reduceLT, Nat.reduceLeDiff, Nat.reduceEqDiff, Nat.reduceAdd, Nat.reduceMul, Nat.reduceSub, Int.reduceToNat, Int.reduceLE, Int.reduceLT, Int.reduceEq, Int.reduceAdd, ↓reduceIte, decide_true, decide_false, and_self]
      exact ⟨_, _, rfl, rfl, .refl _, rfl⟩
    | true =>
      have hp := goodF_eq hgd
      rw [if_pos rfl]
      simp (maxSteps := 200000) only [fCells, hcl, push_cast, List.getD_cons_zero, List.getD_cons_succ, List.take_succ_cons, List.take_zero, List.drop_succ_cons, Nat.reduceLT, Nat.reduceLeDiff, Nat.reduceEqDiff, Nat.reduceAdd, Nat.reduceMul, Nat.reduceSub, Int.reduceToNat, Int.reduceLE, Int.reduceLT, Int.reduceEq, Int.reduceAdd, ↓reduceIte, decide_true, decide_false, and_self]
      refine call_intro answers21_c (fun h => by cases h) ?_
      simp (maxSteps := 200000) only [fCells, hcl, push_cast, List.getD_cons_zero, List.getD_cons_succ, List.take_succ_cons, List.take_zero, List.drop_succ_cons, Nat.reduceLT, Nat.reduceLeDiff, Nat.reduceEqDiff, Nat.reduceAdd, Nat.reduceMul, Nat.reduceSub, Int.reduceToNat, Int.reduceLE, Int.reduceLT, Int.reduceEq, Int.reduceAdd, ↓reduceIte, decide_true, decide_false, and_self]
      refine call_intro (good_c f (by omega) (by omega) (fun s hs => by have := h3 s hs; omega) (by omega) (by omega)) (fun h => by cases h) ?_
      rw [hgd]
      simp (maxSteps := 200000) only [fCells, hcl, push_cast, List.getD_cons_zero, List.getD_cons_succ, List.take_succ_cons, List.take_zero, List.drop_succ_cons, Nat.reduceLT, Nat.reduceLeDiff, Nat.reduceEqDiff, Nat.reduceAdd, Nat.reduceMul, Nat.reduceSub, Int.reduceToNat, Int.reduceLE, Int.reduceLT, Int.reduceEq, Int.reduceAdd, ↓reduceIte, decide_true, decide_false, and_self]
      refine call_intro (FParse_c f.tag (fbytes f) (by omega) (by omega)) (fun h => by cases h) ?_
      rw [hp]
      simp (maxSteps := 200000) only [fres, fCells, hcl, push_cast, List.getD_cons_zero, List.getD_cons_succ, List.take_succ_cons, List.take_zero, List.drop_succ_cons, Nat.reduceLT, Nat.reduceLeDiff, Nat.reduceEqDiff, Nat.reduceAdd, Nat.reduceMul, Nat.reduceSub, Int.reduceToNat, Int.reduceLE, Int.reduceLT, Int.reduceEq, Int.reduceAdd, ↓reduceIte, decide_true, decide_false, and_self]
      refine call_intro (rsame_c f f (by omega) (fun s hs => by have := h3 s hs; omega) (by omega)) (fun h => by cases h) ?_
      rw [sameB_refl]
      simp (maxSteps := 200000) only [fCells, hcl, push_cast, List.getD_cons_zero, List.getD_cons_succ, List.take_succ_cons, List.take_zero, List.drop_succ_cons, Nat.reduceLT, Nat.reduceLeDiff, Nat.reduceEqDiff, Nat.reduceAdd, Nat.reduceMul, Nat.reduceSub, Int.reduceToNat, Int.reduceLE, Int.reduceLT, Int.reduceEq, Int.reduceAdd, ↓reduceIte, decide_true, decide_false, and_self]
      refine call_intro (rbytes_s f (by omega) (by omega)) (fun h => by cases h) ?_
      simp (maxSteps := 200000) only [fCells, hcl, push_cast, List.getD_cons_zero, List.getD_cons_succ, List.take_succ_cons, List.take_zero, List.drop_succ_cons, Nat.reduceLT, Nat.reduceLeDiff, Nat.reduceEqDiff, Nat.reduceAdd, Nat.reduceMul, Nat.reduceSub, Int.reduceToNat, Int.reduceLE, Int.reduceLT, Int.reduceEq, Int.reduceAdd, ↓reduceIte, decide_true, decide_false, and_self]
      refine call_intro (same_c (fbytes f) (fbytes f) (by omega)) (fun h => by cases h) ?_
      rw [beq_self_eq_true]
      simp (maxSteps := 200000) only [fCells, hcl, push_cast, List.getD_cons_zero, List.getD_cons_succ, List.take_succ_cons, List.take_zero, List.drop_succ_cons, Nat.reduceLT, Nat.reduceLeDiff, Nat.reduceEqDiff, Nat.reduceAdd, Nat.reduceMul, Nat.reduceSub, Int.reduceToNat, Int.reduceLE, Int.reduceLT, Int.reduceEq, Int.reduceAdd, ↓reduceIte, decide_true, decide_false, and_self]
      exact ⟨_, _, rfl, rfl, .refl _, rfl⟩
  · rw [decide_eq_false hsm]
    simp (maxSteps := 200000) only [push_cast, List.getD_cons_zero, List.getD_cons_succ, List.take_succ_cons, List.take_zero, List.drop_succ_cons, Nat.reduceLT, Nat.reduceLeDiff, Nat.reduceEqDiff, Nat.reduceAdd, Nat.reduceMul, Nat.reduceSub, Int.reduceToNat, Int.reduceLE, Int.reduceLT, Int.reduceEq, Int.reduceAdd, ↓reduceIte, decide_true, decide_false, and_self]
    refine call_intro answers21_c (fun h => by cases h) ?_
    simp (maxSteps := 200000) only [push_cast, List.getD_cons_zero, List.getD_cons_succ, List.take_succ_cons, List.take_zero, List.drop_succ_cons, Nat.reduceLT, Nat.reduceLeDiff, Nat.reduceEqDiff, Nat.reduceAdd, Nat.reduceMul, Nat.reduceSub, Int.reduceToNat, Int.reduceLE, Int.reduceLT, Int.reduceEq, Int.reduceAdd, ↓reduceIte, decide_true, decide_false, and_self]
    exact ⟨_, _, rfl, rfl, .refl _, rfl⟩
end Go.Proofs.Yteapibifebnboaa

/- field: what is handed in, with its bytes' range. -/
set_option linter.unusedVariables false
namespace Go.Proofs.Yteapibifebnboaa
open Go Go.Eng
theorem u8s_inj {a b : List Int} (h : u8s a = u8s b) : a = b := by
  have : ∀ {a b : List Int}, u8s a = u8s b → a = b := by
    intro a
    induction a with
    | nil => intro b h; cases b with
      | nil => rfl
      | cons c b => simp [u8s] at h
    | cons c a ih =>
      intro b h
      cases b with
      | nil => simp [u8s] at h
      | cons d b =>
        simp only [u8s, List.map_cons, List.cons.injEq, AV.int.injEq, true_and] at h
        rw [h.1, ih h.2]
  exact this h
theorem opensSubB {H : Type} : OpensW Try.prog H 57 fun xs => ∃ s : SubV, (s.2.length ≤ 140737488351232 ∧ (0 ≤ s.1 ∧ s.1 < 256) ∧ inB s.2) ∧ xs = sCells s := by
  refine (opens_struct2W Try.underlying57 (opens_intW Try.underlying5) opensTextW (by kernel_rfl) (by kernel_rfl) (by kernel_rfl)).imp ?_
  rintro xs ⟨a, b, ⟨n, hn, rfl⟩, ⟨l, l1, l2, rfl⟩, rfl⟩
  exact ⟨(n, l), ⟨l2, ⟨hn.1, by have : n ≤ 255 := hn.2; show n < 256; omega⟩, l1⟩, rfl⟩
theorem opensSubsB {H : Type} : OpensW Try.prog H 40 fun xs => ∃ L : List SubV, (∀ s ∈ L, s.2.length ≤ 140737488351232 ∧ (0 ≤ s.1 ∧ s.1 < 256) ∧ inB s.2) ∧ L.length ≤ 140737488351232 ∧ xs = [.sl L.length (subCells L)] := by
  refine (opens_sliceW (s := 2) Try.underlying40 (by kernel_rfl) (by omega) (of_decide_eq_true (by kernel_rfl)) opensSubB).imp ?_
  rintro xs ⟨els, h1, h2, rfl⟩
  obtain ⟨L, rfl⟩ := all_form (f := sCells) h1 fun c hc => let ⟨⟨s, _, h⟩, _⟩ := hc; ⟨s, h⟩
  refine ⟨L, fun s hs => ?_, by simpa using h2, by rw [List.length_map]; rfl⟩
  obtain ⟨⟨s', l1, h⟩, _⟩ := h1 (sCells s) (List.mem_map.2 ⟨s, hs, rfl⟩)
  simp only [sCells, List.cons.injEq, AV.int.injEq, AV.sl.injEq, true_and, and_true] at h
  rw [u8s_inj h.2.2, h.1]; exact l1
theorem opensFieldB {H : Type} : OpensW Try.prog H 42 fun xs => ∃ f : FV, f.tag.length ≤ 140737488351232 ∧ f.text.length ≤ 140737488351232 ∧ (∀ s ∈ f.subs, s.2.length ≤ 140737488351232) ∧ f.subs.length ≤ 140737488351232 ∧ FB f ∧ xs = fCells f := by
  refine (opens_struct4W Try.underlying42 (opens_strW Try.underlying9) opensTextW (opens_two Try.underlying39 Try.underlying5 (by kernel_rfl) (by kernel_rfl)) opensSubsB (by kernel_rfl) (by kernel_rfl) (by kernel_rfl) (by kernel_rfl) (by kernel_rfl)).imp ?_
  rintro xs ⟨a, b, c, d, ⟨tag, _, t2, rfl⟩, ⟨tx, x1, x2, rfl⟩, ⟨i, j, rfl⟩, ⟨L, l1, l2, rfl⟩, rfl⟩
  exact ⟨⟨tag, tx, i, j, L⟩, t2, x2, fun s hs => (l1 s hs).1, l2, ⟨x1, fun s hs => (l1 s hs).2⟩, rfl⟩
theorem FieldPrints_call {xs : List AV} (h : ∃ f : FV, f.tag.length ≤ 140737488351232 ∧ f.text.length ≤ 140737488351232 ∧ (∀ s ∈ f.subs, s.2.length ≤ 140737488351232) ∧ f.subs.length ≤ 140737488351232 ∧ FB f ∧ xs = fCells f) :
    ACall Try.prog 8 [.agg xs] (.bool true) none := by
  obtain ⟨f, h1, h2, h3, h4, h5, rfl⟩ := h
  exact FieldPrints_c f h1 h2 h3 h4 h5
theorem opensStrW {H : Type} : OpensW Try.prog H 9 fun xs => ∃ l : List Int, (∀ c ∈ l, 0 ≤ c ∧ c < 256) ∧ l.length ≤ 140737488351232 ∧ xs = [.str l] := opens_strW Try.underlying9
theorem FieldParses_call {a b : AV} (h : ∃ l : List Int, (∀ c ∈ l, 0 ≤ c ∧ c < 256) ∧ l.length ≤ 140737488351232 ∧ [a] = [.str l]) (k : ∃ l : List Int, (∀ c ∈ l, 0 ≤ c ∧ c < 256) ∧ l.length ≤ 140737488351232 ∧ [b] = [.sl l.length (u8s l)]) :
    ACall Try.prog 7 [a, b] (.bool true) none := by
  obtain ⟨tag, _, h2, e⟩ := h
  cases e
  obtain ⟨l, k1, k2, e⟩ := k
  cases e
  exact FieldParses_c tag l h2 k2 k1
end Go.Proofs.Yteapibifebnboaa
