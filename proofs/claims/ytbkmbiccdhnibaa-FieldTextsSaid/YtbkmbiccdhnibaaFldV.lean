/- field.Texts, ref19.Texts -/
import Derived.Test.YtbkmbiccdhnibaaFldT
set_option linter.unusedVariables false
set_option linter.unusedSimpArgs false
namespace Go.Proofs.Ytbkmbiccdhnibaa
open Go Go.Eng
def tx1 (t : List Int) : AV := .sl t.length (u8s t)
def txCells (T : List (List Int)) : List AV := T.map tx1
theorem txCells_length (T : List (List Int)) : (txCells T).length = T.length := by simp [txCells]
theorem txCells_closed (T : List (List Int)) : closedL (txCells T) = true := by
  induction T with
  | nil => rfl
  | cons t T ih =>
    show closedL (tx1 t :: txCells T) = true
    simp only [closedL, tx1, AV.closed, u8s_closed, Bool.true_and]
    exact ih
theorem txCells_get (T : List (List Int)) (i : Nat) (hi : i < T.length) : (txCells T).getD i .dead = .sl T[i].length (u8s T[i]) := by
  rw [List.getD_eq_getElem?_getD, List.getElem?_eq_getElem (by rw [txCells_length]; exact hi)]
  simp [txCells, tx1]
def textsOf (f : FV) : List (List Int) := if ctl f.tag = true then [f.text] else f.subs.map (·.2)
def textsTo (f : FV) (i : Nat) : List (List Int) := (f.subs.take i).map (·.2)
theorem textsTo_succ (f : FV) (i : Nat) (hi : i < f.subs.length) : txCells (textsTo f (i + 1)) = txCells (textsTo f i) ++ [.sl f.subs[i].2.length (u8s f.subs[i].2)] := by
  unfold textsTo; rw [List.take_add_one, List.getElem?_eq_getElem hi, List.map_append]; unfold txCells; rw [List.map_append]; rfl
theorem textsTo_length (f : FV) (i : Nat) (hi : i ≤ f.subs.length) : (textsTo f i).length = i := by unfold textsTo; simp; omega
set_option maxRecDepth 100000 in
set_option maxHeartbeats 4000000 in
theorem Texts_c (f : FV) (ht : f.tag.length ≤ 9223372036854775807) (hx : f.text.length ≤ 140737488355328) (hs : ∀ s ∈ f.subs, s.2.length ≤ 140737488355328) (hn : f.subs.length ≤ 1099511627776) :
    ACall Try.prog 31 [.agg (fCells f)] (.sl (textsOf f).length (txCells (textsOf f))) none := by
  have hcf : closedL (subCells f.subs) = true := subCells_closed _
  refine acall_intro none Try.func31 rfl (by kernel_rfl) (by simp [Try.f31]) ?_
  refine ex_run 30 ?_
  simp (maxSteps := 200000) only [Try.f31, fCells, hcf, push_cast, List.getD_cons_zero, List.getD_cons_succ, List.take_succ_cons, List.take_zero, List.drop_succ_cons, Nat.reduceLT, Nat.reduceLeDiff, Nat.reduceEqDiff, Nat.reduceAdd, Nat.reduceMul, Nat.reduceSub, Int.reduceToNat, Int.reduceLE, Int.reduceLT, Int.reduceEq, Int.reduceAdd, ↓reduceIte, decide_true, decide_false, and_self]
  refine call_intro (Control_c f.tag ht) (fun h => by cases h) ?_
  cases hc : List.isPrefixOf [48, 48] f.tag with
  | true =>
    have hT : textsOf f = [f.text] := by unfold textsOf; rw [if_pos (show ctl f.tag = true from hc)]
    rw [hT]
    simp (maxSteps := 200000) only [push_cast, List.getD_cons_zero, List.getD_cons_succ, List.take_succ_cons, List.take_zero, List.drop_succ_cons, Nat.reduceLT, Nat.reduceLeDiff, Nat.reduceEqDiff, Nat.reduceAdd, Nat.reduceMul, Nat.reduceSub, Int.reduceToNat, Int.reduceLE, Int.reduceLT, Int.reduceEq, Int.reduceAdd, ↓reduceIte, decide_true, decide_false, and_self]
    refine call_intro (Clone_c f.text hx) (fun h => by cases h) ?_
    simp (maxSteps := 200000) only [hcf, push_cast, List.getD_cons_zero, List.getD_cons_succ, List.take_succ_cons, List.take_zero, List.drop_succ_cons, Nat.reduceLT, Nat.reduceLeDiff, Nat.reduceEqDiff, Nat.reduceAdd, Nat.reduceMul, Nat.reduceSub, Int.reduceToNat, Int.reduceLE, Int.reduceLT, Int.reduceEq, Int.reduceAdd, ↓reduceIte, decide_true, decide_false, and_self]
    exact ⟨_, [.sl 1 (txCells [f.text])], rfl, by simp [outA, outV, outC, mkS_env, mkS_tk, lkF, lkG, u8s_closed, txCells, tx1, AV.closed, closedL], .refl _, rfl⟩
  | false =>
    have hT : textsOf f = f.subs.map (·.2) := by unfold textsOf; rw [if_neg (by show ¬ ctl f.tag = true; unfold ctl; rw [hc]; simp)]
    simp (maxSteps := 200000) only [hcf, push_cast, List.getD_cons_zero, List.getD_cons_succ, List.take_succ_cons, List.take_zero, List.drop_succ_cons, Nat.reduceLT, Nat.reduceLeDiff, Nat.reduceEqDiff, Nat.reduceAdd, Nat.reduceMul, Nat.reduceSub, Int.reduceToNat, Int.reduceLE, Int.reduceLT, Int.reduceEq, Int.reduceAdd, ↓reduceIte, decide_true, decide_false, and_self]
    refine run_lazy 3 100 1 rfl ?_
    refine run_keep (l' := [(16, .int .i64 0), (15, .int .i64 f.subs.length), (14, .sl f.subs.length (subCells f.subs)), (3, .own 100 _ 0 0)]) (t' := [(100, ⟨_, 1, txCells (textsTo f 0)⟩)]) (nx' := _) ⟨.refl _, .refl _, .refl _, .refl _, trivial⟩ ⟨⟨_, rfl, rfl, rfl, SubL.refl _⟩, trivial⟩ (Nat.le_refl _) ?_
    refine run_loop (fun n s => ∃ (i g nx : Nat), i ≤ f.subs.length ∧ n = f.subs.length - i ∧ s = mkS [(16, .int .i64 i), (15, .int .i64 f.subs.length), (14, .sl f.subs.length (subCells f.subs)), (3, .own 100 g 0 i)] [(100, ⟨g, 1, txCells (textsTo f i)⟩)] nx) _ ⟨0, _, _, Nat.zero_le _, rfl, rfl⟩ ?_
    rintro n s ⟨i, g, nx, hi, rfl, rfl⟩
    have hcl : (txCells (textsTo f i)).length = i := by rw [txCells_length, textsTo_length f i hi]
    by_cases h : i < f.subs.length
    · have r0 := subCells_row f.subs i h
      have hsl := subCells_length f.subs
      have hpos : 0 < f.subs.length * 2 := by omega
      have l0 : i * 2 + 2 ≤ f.subs.length * 2 := by omega
      have hw : IntKind.i64.wrap ((i : Int) + 1) = ((i + 1 : Nat) : Int) := by rw [wrap_i64 (by omega)]; omega
      have hos := textsTo_succ f i h
      have hlen := hs _ (List.getElem_mem h)
      generalize f.subs[i] = q at *
      obtain ⟨c, tx⟩ := q
      simp only [sCells] at r0
      simp only at hos hlen
      have hcx : closedL (u8s tx) = true := u8s_closed tx
      refine ex_run 40 ?_
      simp (maxSteps := 200000) only [h, r0, hsl, hpos, l0, hcx, push_cast, List.getD_cons_zero, List.getD_cons_succ, List.take_succ_cons, List.take_zero, List.drop_succ_cons, Nat.reduceLT, Nat.reduceLeDiff, Nat.reduceEqDiff, Nat.reduceAdd, Nat.reduceMul, Nat.reduceSub, Int.reduceToNat, Int.reduceLE, Int.reduceLT, Int.reduceEq, Int.reduceAdd, ↓reduceIte, decide_true, decide_false, and_self]
      refine call_intro (Clone_c tx hlen) (fun h => by cases h) ?_
      simp (maxSteps := 200000) only [hw, hcl, push_cast, List.getD_cons_zero, List.getD_cons_succ, List.take_succ_cons, List.take_zero, List.drop_succ_cons, Nat.reduceLT, Nat.reduceLeDiff, Nat.reduceEqDiff, Nat.reduceAdd, Nat.reduceMul, Nat.reduceSub, Int.reduceToNat, Int.reduceLE, Int.reduceLT, Int.reduceEq, Int.reduceAdd, ↓reduceIte, decide_true, decide_false, and_self]
      refine ⟨⟨by omega, by omega⟩, ?_⟩
      rw [← hos]
      refine run_back_le (le_mk (l' := [(16, .int .i64 ((i + 1 : Nat) : Int)), (15, .int .i64 f.subs.length), (14, .sl f.subs.length (subCells f.subs)), (3, .own 100 _ 0 (i + 1))]) (t' := [(100, ⟨_, 1, txCells (textsTo f (i + 1))⟩)]) (nx' := _)
          ⟨.refl _, .refl _, .refl _, .refl _, trivial⟩ ⟨⟨_, rfl, rfl, rfl, SubL.refl _⟩, trivial⟩ (Nat.le_refl _)) ?_
      exact ⟨f.subs.length - (i + 1), by omega, i + 1, _, _, by omega, rfl, rfl⟩
    · have hie : i = f.subs.length := by omega
      refine ex_run 30 ?_
      simp (maxSteps := 200000) only [h, push_cast, List.getD_cons_zero, List.getD_cons_succ, List.take_succ_cons, List.take_zero, List.drop_succ_cons, Nat.reduceLT, Nat.reduceLeDiff, Nat.reduceEqDiff, Nat.reduceAdd, Nat.reduceMul, Nat.reduceSub, Int.reduceToNat, Int.reduceLE, Int.reduceLT, Int.reduceEq, Int.reduceAdd, ↓reduceIte, decide_true, decide_false, and_self]
      have hoe : textsTo f i = textsOf f := by rw [hT, hie]; unfold textsTo; rw [List.take_length]
      have hol : (textsOf f).length = i := by rw [hT, List.length_map, hie]
      have htk : (txCells (textsOf f)).take i = txCells (textsOf f) := List.take_of_length_le (by rw [txCells_length, hol]; omega)
      rw [hol, hoe]
      exact ⟨_, [.sl i (txCells (textsOf f))], rfl, by simp [outA, outV, outC, mkS_env, mkS_tk, lkF, lkG, txCells_closed, htk], .refl _, rfl⟩
set_option maxRecDepth 100000 in
set_option maxHeartbeats 4000000 in
theorem rtexts_c (f : FV) (ht : f.tag.length ≤ 9223372036854775807) (hn : f.subs.length ≤ 1099511627776) :
    ACall Try.prog 32 [.agg (fCells f)] (.sl (textsOf f).length (txCells (textsOf f))) none := by
  have hcf : closedL (subCells f.subs) = true := subCells_closed _
  refine acall_intro none Try.func32 rfl (by kernel_rfl) (by simp [Try.f32]) ?_
  refine ex_run 30 ?_
  simp (maxSteps := 200000) only [Try.f32, fCells, hcf, push_cast, List.getD_cons_zero, List.getD_cons_succ, List.take_succ_cons, List.take_zero, List.drop_succ_cons, Nat.reduceLT, Nat.reduceLeDiff, Nat.reduceEqDiff, Nat.reduceAdd, Nat.reduceMul, Nat.reduceSub, Int.reduceToNat, Int.reduceLE, Int.reduceLT, Int.reduceEq, Int.reduceAdd, ↓reduceIte, decide_true, decide_false, and_self]
  refine call_intro (RControl_c f.tag ht) (fun h => by cases h) ?_
  cases hc : List.isPrefixOf [48, 48] f.tag with
  | true =>
    have hT : textsOf f = [f.text] := by unfold textsOf; rw [if_pos (show ctl f.tag = true from hc)]
    rw [hT]
    simp (maxSteps := 200000) only [hcf, push_cast, List.getD_cons_zero, List.getD_cons_succ, List.take_succ_cons, List.take_zero, List.drop_succ_cons, Nat.reduceLT, Nat.reduceLeDiff, Nat.reduceEqDiff, Nat.reduceAdd, Nat.reduceMul, Nat.reduceSub, Int.reduceToNat, Int.reduceLE, Int.reduceLT, Int.reduceEq, Int.reduceAdd, ↓reduceIte, decide_true, decide_false, and_self]
    exact ⟨_, [.sl 1 (txCells [f.text])], rfl, by simp [outA, outV, outC, mkS_env, mkS_tk, lkF, lkG, u8s_closed, txCells, tx1, AV.closed, closedL], .refl _, rfl⟩
  | false =>
    have hT : textsOf f = f.subs.map (·.2) := by unfold textsOf; rw [if_neg (by show ¬ ctl f.tag = true; unfold ctl; rw [hc]; simp)]
    simp (maxSteps := 200000) only [hcf, push_cast, List.getD_cons_zero, List.getD_cons_succ, List.take_succ_cons, List.take_zero, List.drop_succ_cons, Nat.reduceLT, Nat.reduceLeDiff, Nat.reduceEqDiff, Nat.reduceAdd, Nat.reduceMul, Nat.reduceSub, Int.reduceToNat, Int.reduceLE, Int.reduceLT, Int.reduceEq, Int.reduceAdd, ↓reduceIte, decide_true, decide_false, and_self]
    refine run_lazy 3 100 1 rfl ?_
    refine run_keep (l' := [(1, .addr 1 0 0), (4, .int .i64 0), (3, .own 100 _ 0 0)]) (t' := [(100, ⟨_, 1, txCells (textsTo f 0)⟩), (1, ⟨0, 1, fCells f⟩)]) (nx' := _) ⟨.refl _, .refl _, .refl _, trivial⟩ ⟨⟨_, rfl, rfl, rfl, SubL.refl _⟩, ⟨_, rfl, rfl, rfl, SubL.refl _⟩, trivial⟩ (Nat.le_refl _) ?_
    refine run_loop (fun n s => ∃ (i g nx : Nat), i ≤ f.subs.length ∧ n = f.subs.length - i ∧ s = mkS [(1, .addr 1 0 0), (4, .int .i64 i), (3, .own 100 g 0 i)] [(100, ⟨g, 1, txCells (textsTo f i)⟩), (1, ⟨0, 1, fCells f⟩)] nx) _ ⟨0, _, _, Nat.zero_le _, rfl, rfl⟩ ?_
    rintro n s ⟨i, g, nx, hi, rfl, rfl⟩
    have hcl : (txCells (textsTo f i)).length = i := by rw [txCells_length, textsTo_length f i hi]
    by_cases h : i < f.subs.length
    · have g1 := subCells_get f.subs i 1 h (by omega)
      have hsl := subCells_length f.subs
      have hpos : 0 < f.subs.length * 2 := by omega
      have l1 : i * 2 + 1 < f.subs.length * 2 := by omega
      have hw : IntKind.i64.wrap ((i : Int) + 1) = ((i + 1 : Nat) : Int) := by rw [wrap_i64 (by omega)]; omega
      have hos := textsTo_succ f i h
      generalize f.subs[i] = q at *
      obtain ⟨c, tx⟩ := q
      simp only [sCells, List.getD_cons_zero, List.getD_cons_succ] at g1
      simp only at hos
      refine ex_run 40 ?_
      simp (maxSteps := 200000) only [fCells, h, g1, hsl, hpos, l1, hcl, hw, push_cast, List.getD_cons_zero, List.getD_cons_succ, List.take_succ_cons, List.take_zero, List.drop_succ_cons, Nat.reduceLT, Nat.reduceLeDiff, Nat.reduceEqDiff, Nat.reduceAdd, Nat.reduceMul, Nat.reduceSub, Int.reduceToNat, Int.reduceLE, Int.reduceLT, Int.reduceEq, Int.reduceAdd, ↓reduceIte, decide_true, decide_false, and_self]
      refine ⟨⟨by omega, by omega⟩, ?_⟩
      rw [← hos]
      refine run_back_le (le_mk (l' := [(1, .addr 1 0 0), (4, .int .i64 ((i + 1 : Nat) : Int)), (3, .own 100 _ 0 (i + 1))]) (t' := [(100, ⟨_, 1, txCells (textsTo f (i + 1))⟩), (1, ⟨0, 1, fCells f⟩)]) (nx' := _)
          ⟨.refl _, .of_eq (congrArg (AV.int .i64) (by omega)), .refl _, trivial⟩ ⟨⟨_, rfl, rfl, rfl, SubL.refl _⟩, ⟨_, rfl, rfl, rfl, SubL.refl _⟩, trivial⟩ (Nat.le_refl _)) ?_
      exact ⟨f.subs.length - (i + 1), by omega, i + 1, _, _, by omega, rfl, rfl⟩
    · have hie : i = f.subs.length := by omega
      refine ex_run 30 ?_
      simp (maxSteps := 200000) only [fCells, h, push_cast, List.getD_cons_zero, List.getD_cons_succ, List.take_succ_cons, List.take_zero, List.drop_succ_cons, Nat.reduceLT, Nat.reduceLeDiff, Nat.reduceEqDiff, Nat.reduceAdd, Nat.reduceMul, Nat.reduceSub, Int.reduceToNat, Int.reduceLE, Int.reduceLT, Int.reduceEq, Int.reduceAdd, ↓reduceIte, decide_true, decide_false, and_self]
      have hoe : textsTo f i = textsOf f := by rw [hT, hie]; unfold textsTo; rw [List.take_length]
      have hol : (textsOf f).length = i := by rw [hT, List.length_map, hie]
      have htk : (txCells (textsOf f)).take i = txCells (textsOf f) := List.take_of_length_le (by rw [txCells_length, hol]; omega)
      rw [hol, hoe]
      exact ⟨_, [.sl i (txCells (textsOf f))], rfl, by simp [outA, outV, outC, mkS_env, mkS_tk, lkF, lkG, txCells_closed, htk], .refl _, rfl⟩
end Go.Proofs.Ytbkmbiccdhnibaa
