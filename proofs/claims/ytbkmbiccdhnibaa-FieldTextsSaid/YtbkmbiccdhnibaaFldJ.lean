/- law21.small -/
import Derived.Test.YtbkmbiccdhnibaaFldI
set_option linter.unusedVariables false
set_option linter.unusedSimpArgs false
namespace Go.Proofs.Ytbkmbiccdhnibaa
open Go Go.Eng
def totTo (f : FV) (i : Nat) : Nat := f.tag.length + f.text.length + ((f.subs.take i).flatMap subB).length
def tot (f : FV) : Nat := f.tag.length + f.text.length + (f.subs.flatMap subB).length
theorem totTo_le (f : FV) (i : Nat) : totTo f i ≤ tot f := by have := flat_le f.subs i; unfold totTo tot; omega
theorem totTo_succ (f : FV) (i : Nat) (hi : i < f.subs.length) : totTo f (i + 1) = totTo f i + 2 + f.subs[i].2.length := by
  unfold totTo; rw [flat_snoc _ _ hi, List.length_append]; simp [subB]; omega
theorem fbytes_tot (f : FV) : (fbytes f).length ≤ tot f + 2 := by
  unfold fbytes tot
  split
  · omega
  · simp only [List.length_cons]; omega
set_option maxRecDepth 100000 in
set_option maxHeartbeats 4000000 in
theorem small_c (f : FV) (h1 : f.tag.length ≤ 140737488351232) (h2 : f.text.length ≤ 140737488351232) (h3 : ∀ s ∈ f.subs, s.2.length ≤ 140737488351232) (h4 : f.subs.length ≤ 140737488351232) :
    ACall Try.prog 21 [.agg (fCells f)] (.bool (decide (tot f < 20000))) none := by
  refine acall_intro none Try.func21 rfl (by kernel_rfl) (by simp [Try.f21]) ?_
  have w0 : IntKind.i64.wrap ((f.tag.length : Int) + (f.text.length : Int)) = ((totTo f 0 : Nat) : Int) := by rw [wrap_i64 (by omega)]; unfold totTo; simp
  refine ex_run 30 ?_
  simp (maxSteps := 200000) only [Try.f21, fCells, w0, push_cast, List.getD_cons_zero, List.getD_cons_succ, List.take_succ_cons, List.take_zero, List.drop_succ_cons, Nat.reduceLT, Nat.reduceLeDiff, Nat.reduceEqDiff, Nat.reduceAdd, Nat.reduceMul, Nat.reduceSub, Int.reduceToNat, Int.reduceLE, Int.reduceLT, Int.reduceEq, Int.reduceAdd, ↓reduceIte, decide_true, decide_false, and_self]
  refine run_keep (l' := [(1, .addr 1 0 0), (2, .bool false), (3, .int .i64 (totTo f 0 : Nat)), (4, .int .i64 0)]) (t' := [(1, ⟨0, 1, fCells f⟩)]) (nx' := _) ⟨.refl _, .refl _, .refl _, .refl _, trivial⟩ ⟨⟨_, rfl, rfl, rfl, SubL.refl _⟩, trivial⟩ (Nat.le_refl _) ?_
  refine run_loop (fun n s => ∃ (i nx : Nat), i ≤ f.subs.length ∧ n = f.subs.length - i ∧ totTo f i ≤ 300000000000000 ∧ s = mkS [(1, .addr 1 0 0), (2, .bool false), (3, .int .i64 (totTo f i : Nat)), (4, .int .i64 i)] [(1, ⟨0, 1, fCells f⟩)] nx) _ ⟨0, _, Nat.zero_le _, rfl, by unfold totTo; simp; omega, rfl⟩ ?_
  rintro n s ⟨i, nx, hi, rfl, hb, rfl⟩
  have hle := totTo_le f i
  by_cases h : i < f.subs.length
  · by_cases h20 : totTo f i < 20000
    · have g1 := subCells_get f.subs i 1 h (by omega)
      have hsl := subCells_length f.subs
      have hpos : 0 < f.subs.length * 2 := by omega
      have l1 : i * 2 + 1 < f.subs.length * 2 := by omega
      have hsucc := totTo_succ f i h
      have hlen := h3 _ (List.getElem_mem h)
      have hw : IntKind.i64.wrap ((i : Int) + 1) = ((i + 1 : Nat) : Int) := by rw [wrap_i64 (by omega)]; omega
      generalize f.subs[i] = q at *
      obtain ⟨c, tx⟩ := q
      simp only [sCells, List.getD_cons_zero, List.getD_cons_succ] at g1
      simp only at hsucc hlen
      generalize hm2 : totTo f (i + 1) = m2 at *
      generalize hm : totTo f i = m at *
      have w1 : IntKind.i64.wrap ((m : Int) + 2) = (m : Int) + 2 := wrap_i64 (by omega)
      have w2 : IntKind.i64.wrap ((m : Int) + 2 + (tx.length : Int)) = (m2 : Int) := by rw [wrap_i64 (by omega)]; omega
      have h20' : (m : Int) < 20000 := by omega
      refine ex_run 30 ?_
      simp (maxSteps := 200000) only [fCells, h, h20', g1, hsl, hpos, l1, hw, w1, w2, push_cast, List.getD_cons_zero, List.getD_cons_succ, List.take_succ_cons, List.take_zero, List.drop_succ_cons, Nat.reduceLT, Nat.reduceLeDiff, Nat.reduceEqDiff, Nat.reduceAdd, Nat.reduceMul, Nat.reduceSub, Int.reduceToNat, Int.reduceLE, Int.reduceLT, Int.reduceEq, Int.reduceAdd, ↓reduceIte, decide_true, decide_false, and_self]
      refine run_back_le (le_mk (l' := [(1, .addr 1 0 0), (2, .bool false), (3, .int .i64 m2), (4, .int .i64 ((i + 1 : Nat) : Int))]) (t' := [(1, ⟨0, 1, fCells f⟩)]) (nx' := _) ⟨.refl _, .refl _, .refl _, .of_eq (congrArg (AV.int .i64) (by omega)), trivial⟩ ⟨⟨_, rfl, rfl, rfl, SubL.refl _⟩, trivial⟩ (Nat.le_refl _)) ?_
      exact ⟨f.subs.length - (i + 1), by omega, i + 1, _, by omega, rfl, by rw [hm2]; omega, by rw [hm2]; rfl⟩
    · have h20' : ¬ (totTo f i : Int) < 20000 := by omega
      refine ex_run 30 ?_
      simp (maxSteps := 200000) only [fCells, h, h20', push_cast, List.getD_cons_zero, List.getD_cons_succ, List.take_succ_cons, List.take_zero, List.drop_succ_cons, Nat.reduceLT, Nat.reduceLeDiff, Nat.reduceEqDiff, Nat.reduceAdd, Nat.reduceMul, Nat.reduceSub, Int.reduceToNat, Int.reduceLE, Int.reduceLT, Int.reduceEq, Int.reduceAdd, ↓reduceIte, decide_true, decide_false, and_self]
      exact ⟨_, _, rfl, rfl, .of_eq (by rw [show decide (tot f < 20000) = false from decide_eq_false (by omega)]; rfl), rfl⟩
  · have hie : i = f.subs.length := by omega
    subst hie
    have ht : totTo f f.subs.length = tot f := by unfold totTo tot; rw [List.take_length]
    rw [ht]
    refine ex_run 30 ?_
    simp (maxSteps := 200000) only [fCells, h, push_cast, List.getD_cons_zero, List.getD_cons_succ, List.take_succ_cons, List.take_zero, List.drop_succ_cons, Nat.reduceLT, Nat.reduceLeDiff, Nat.reduceEqDiff, Nat.reduceAdd, Nat.reduceMul, Nat.reduceSub, Int.reduceToNat, Int.reduceLE, Int.reduceLT, Int.reduceEq, Int.reduceAdd, ↓reduceIte, decide_true, decide_false, and_self]
    have e : decide ((tot f : Int) < 20000) = decide (tot f < 20000) := by
      by_cases h : tot f < 20000
      · rw [decide_eq_true h, decide_eq_true (by omega)]
      · rw [decide_eq_false h, decide_eq_false (by omega)]
    exact ⟨_, _, rfl, rfl, .of_eq (by rw [← e]; rfl), rfl⟩
end Go.Proofs.Ytbkmbiccdhnibaa
