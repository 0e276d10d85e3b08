/- ref19.Same -/
import Derived.Test.YtbkmbiccdhnibaaFldE
import Derived.Test.YtbkmbiccdhnibaaDirQ
set_option linter.unusedVariables false
set_option linter.unusedSimpArgs false
namespace Go.Proofs.Ytbkmbiccdhnibaa
open Go Go.Eng
theorem eqInd (a b c d : Int) : aeq Try.prog 6 39 [.int .u8 a, .int .u8 b] [.int .u8 c, .int .u8 d] = some ((a == c) && ((b == d) && true)) := by kernel_rfl
theorem eqgInd : Try.prog.eqGuardType Try.prog.depth 39 = false := by kernel_rfl
theorem rowInd : rowT Try.prog 39 = true := by kernel_rfl
attribute [push_cast high] eqInd eqgInd rowInd
deriving instance DecidableEq for FV
def sameB (f g : FV) : Bool := decide (f = g)
theorem sameB_eq {f g : FV} (h1 : f.tag = g.tag) (h2 : f.i0 = g.i0) (h3 : f.i1 = g.i1) (h4 : f.text = g.text) (h5 : f.subs = g.subs) : sameB f g = true := by
  unfold sameB; apply decide_eq_true; cases f; cases g; simp_all
theorem sameB_ne {f g : FV} (h : f ≠ g) : sameB f g = false := decide_eq_false h
set_option maxRecDepth 100000 in
set_option maxHeartbeats 4000000 in
theorem rsame_c (f g : FV) (hf : f.text.length ≤ 9223372036854775807) (hs : ∀ s ∈ f.subs, s.2.length ≤ 9223372036854775807) (hn : f.subs.length ≤ 9223372036854775806) : ACall Try.prog 29 [.agg (fCells f), .agg (fCells g)] (.bool (sameB f g)) none := by
  refine acall_intro none Try.func29 rfl (by kernel_rfl) (by simp [Try.f29]) ?_
  refine ex_run 30 ?_
  by_cases h1 : f.tag = g.tag
  · have h1' : (f.tag == g.tag) = true := by rw [h1]; simp
    by_cases h2 : f.i0 = g.i0
    · by_cases h3 : f.i1 = g.i1
      · simp (maxSteps := 200000) only [Try.f29, fCells, h1', h2, h3, beq_self_eq_true, Bool.false_and, Bool.and_false, push_cast, List.getD_cons_zero, List.getD_cons_succ, List.take_succ_cons, List.take_zero, List.drop_succ_cons, Nat.reduceLT, Nat.reduceLeDiff, Nat.reduceEqDiff, Nat.reduceAdd, Nat.reduceMul, Nat.reduceSub, Int.reduceToNat, Int.reduceLE, Int.reduceLT, Int.reduceEq, Int.reduceAdd, ↓reduceIte, decide_true, decide_false, and_self]
        refine call_intro (same_c f.text g.text hf) (fun h => by cases h) ?_
        by_cases h4 : f.text = g.text
        · have h4' : (f.text == g.text) = true := by rw [h4]; simp
          rw [h4']
          by_cases h5 : f.subs.length = g.subs.length
          · have h5' : (f.subs.length : Int) = (g.subs.length : Int) := by omega
            simp (maxSteps := 200000) only [h5', push_cast, List.getD_cons_zero, List.getD_cons_succ, List.take_succ_cons, List.take_zero, List.drop_succ_cons, Nat.reduceLT, Nat.reduceLeDiff, Nat.reduceEqDiff, Nat.reduceAdd, Nat.reduceMul, Nat.reduceSub, Int.reduceToNat, Int.reduceLE, Int.reduceLT, Int.reduceEq, Int.reduceAdd, ↓reduceIte, decide_true, decide_false, and_self]
            refine run_keep (l' := [(2, .addr 2 0 0), (3, .addr 3 1 0), (5, .int .i64 0)])
              (t' := [(2, ⟨0, 1, [.str f.tag, .sl f.text.length (u8s f.text), .int .u8 g.i0, .int .u8 g.i1, .sl f.subs.length (subCells f.subs)]⟩), (3, ⟨1, 1, [.str g.tag, .sl g.text.length (u8s g.text), .int .u8 g.i0, .int .u8 g.i1, .sl g.subs.length (subCells g.subs)]⟩)]) (nx' := _)
              ⟨.refl _, .refl _, .refl _, trivial⟩ ⟨⟨_, rfl, rfl, rfl, SubL.refl _⟩, ⟨_, rfl, rfl, rfl, SubL.refl _⟩, trivial⟩ (Nat.le_refl _) ?_
            refine run_loop (fun n s => ∃ (i nx : Nat), i ≤ f.subs.length ∧ n = f.subs.length - i ∧ f.subs.take i = g.subs.take i ∧ s = mkS [(2, .addr 2 0 0), (3, .addr 3 1 0), (5, .int .i64 i)]
              [(2, ⟨0, 1, [.str f.tag, .sl f.text.length (u8s f.text), .int .u8 g.i0, .int .u8 g.i1, .sl f.subs.length (subCells f.subs)]⟩), (3, ⟨1, 1, [.str g.tag, .sl g.text.length (u8s g.text), .int .u8 g.i0, .int .u8 g.i1, .sl g.subs.length (subCells g.subs)]⟩)] nx) _ ⟨0, _, Nat.zero_le _, rfl, rfl, rfl⟩ ?_
            rintro n s ⟨i, nx, hi, rfl, heq, rfl⟩
            by_cases h : i < f.subs.length
            · have hg : i < g.subs.length := by omega
              have f0 := subCells_get f.subs i 0 h (by omega)
              have f1 := subCells_get f.subs i 1 h (by omega)
              have g0 := subCells_get g.subs i 0 hg (by omega)
              have g1 := subCells_get g.subs i 1 hg (by omega)
              have fl := subCells_length f.subs
              have gl := subCells_length g.subs
              have pf : 0 < f.subs.length * 2 := by omega
              have pg : 0 < g.subs.length * 2 := by omega
              have a0 : i * 2 < f.subs.length * 2 := by omega
              have a1 : i * 2 + 1 < f.subs.length * 2 := by omega
              have b0 : i * 2 < g.subs.length * 2 := by omega
              have b1 : i * 2 + 1 < g.subs.length * 2 := by omega
              have hw : IntKind.i64.wrap ((i : Int) + 1) = ((i + 1 : Nat) : Int) := by rw [wrap_i64 (by omega)]; omega
              have hst := hs _ (List.getElem_mem h)
              have hstep : f.subs[i] = g.subs[i] → f.subs.take (i + 1) = g.subs.take (i + 1) := fun e => by
                rw [List.take_add_one, List.take_add_one, heq, List.getElem?_eq_getElem h, List.getElem?_eq_getElem hg, e]
              have hne : f.subs[i] ≠ g.subs[i] → sameB f g = false := fun e => sameB_ne fun e2 => e (by subst e2; rfl)
              generalize f.subs[i] = p at *
              generalize g.subs[i] = q at *
              obtain ⟨c, x⟩ := p
              obtain ⟨d, y⟩ := q
              simp only [sCells, List.getD_cons_zero, List.getD_cons_succ, Nat.add_zero] at f0 f1 g0 g1
              simp only at hst
              refine ex_run 30 ?_
              by_cases hcd : c = d
              · simp (maxSteps := 200000) only [h, hg, f0, f1, g0, g1, fl, gl, pf, pg, a0, a1, b0, b1, hcd, push_cast, List.getD_cons_zero, List.getD_cons_succ, List.take_succ_cons, List.take_zero, List.drop_succ_cons, Nat.reduceLT, Nat.reduceLeDiff, Nat.reduceEqDiff, Nat.reduceAdd, Nat.reduceMul, Nat.reduceSub, Int.reduceToNat, Int.reduceLE, Int.reduceLT, Int.reduceEq, Int.reduceAdd, ↓reduceIte, decide_true, decide_false, and_self]
                refine ⟨by kernel_rfl, ?_⟩
                refine call_introF (same_c x y hst) (fun h => by cases h) ?_
                by_cases hxy : x = y
                · have hxy' : (x == y) = true := by rw [hxy]; simp
                  rw [hxy']
                  simp (maxSteps := 200000) only [hw, push_cast, List.getD_cons_zero, List.getD_cons_succ, List.take_succ_cons, List.take_zero, List.drop_succ_cons, Nat.reduceLT, Nat.reduceLeDiff, Nat.reduceEqDiff, Nat.reduceAdd, Nat.reduceMul, Nat.reduceSub, Int.reduceToNat, Int.reduceLE, Int.reduceLT, Int.reduceEq, Int.reduceAdd, ↓reduceIte, decide_true, decide_false, and_self]
                  refine ⟨by kernel_rfl, ?_⟩
                  refine run_back_le (le_mk (l' := [(2, .addr 2 0 0), (3, .addr 3 1 0), (5, .int .i64 ((i + 1 : Nat) : Int))])
                    (t' := [(2, ⟨0, 1, [.str f.tag, .sl f.text.length (u8s f.text), .int .u8 g.i0, .int .u8 g.i1, .sl f.subs.length (subCells f.subs)]⟩), (3, ⟨1, 1, [.str g.tag, .sl g.text.length (u8s g.text), .int .u8 g.i0, .int .u8 g.i1, .sl g.subs.length (subCells g.subs)]⟩)]) (nx' := _)
                    ⟨.refl _, .refl _, .of_eq (congrArg (AV.int .i64) (by omega)), trivial⟩ ⟨⟨_, rfl, rfl, rfl, SubL.refl _⟩, ⟨_, rfl, rfl, rfl, SubL.refl _⟩, trivial⟩ (Nat.le_refl _)) ?_
                  exact ⟨f.subs.length - (i + 1), by omega, i + 1, _, by omega, rfl, hstep (by rw [hcd, hxy]), rfl⟩
                · have hxy' : (x == y) = false := by simpa using hxy
                  rw [hxy']
                  simp (maxSteps := 200000) only [hw, push_cast, List.getD_cons_zero, List.getD_cons_succ, List.take_succ_cons, List.take_zero, List.drop_succ_cons, Nat.reduceLT, Nat.reduceLeDiff, Nat.reduceEqDiff, Nat.reduceAdd, Nat.reduceMul, Nat.reduceSub, Int.reduceToNat, Int.reduceLE, Int.reduceLT, Int.reduceEq, Int.reduceAdd, ↓reduceIte, decide_true, decide_false, and_self]
                  refine ⟨by kernel_rfl, ?_⟩
                  exact ⟨_, _, rfl, rfl, .of_eq (by rw [hne (fun e => hxy (by cases e; rfl))]; rfl), rfl⟩
              · simp (maxSteps := 200000) only [h, hg, f0, f1, g0, g1, fl, gl, pf, pg, a0, a1, b0, b1, hcd, push_cast, List.getD_cons_zero, List.getD_cons_succ, List.take_succ_cons, List.take_zero, List.drop_succ_cons, Nat.reduceLT, Nat.reduceLeDiff, Nat.reduceEqDiff, Nat.reduceAdd, Nat.reduceMul, Nat.reduceSub, Int.reduceToNat, Int.reduceLE, Int.reduceLT, Int.reduceEq, Int.reduceAdd, ↓reduceIte, decide_true, decide_false, and_self]
                refine ⟨by kernel_rfl, by kernel_rfl, ?_⟩
                exact ⟨_, _, rfl, rfl, .of_eq (by rw [hne (fun e => hcd (by cases e; rfl))]; rfl), rfl⟩
            · refine ex_run 30 ?_
              simp (maxSteps := 200000) only [h, push_cast, List.getD_cons_zero, List.getD_cons_succ, List.take_succ_cons, List.take_zero, List.drop_succ_cons, Nat.reduceLT, Nat.reduceLeDiff, Nat.reduceEqDiff, Nat.reduceAdd, Nat.reduceMul, Nat.reduceSub, Int.reduceToNat, Int.reduceLE, Int.reduceLT, Int.reduceEq, Int.reduceAdd, ↓reduceIte, decide_true, decide_false, and_self]
              rw [List.take_of_length_le (by omega), List.take_of_length_le (by omega)] at heq
              exact ⟨_, _, rfl, rfl, .of_eq (by rw [sameB_eq h1 h2 h3 h4 heq]; rfl), rfl⟩
          · have h5' : ¬ (f.subs.length : Int) = (g.subs.length : Int) := by omega
            simp (maxSteps := 200000) only [h5', push_cast, List.getD_cons_zero, List.getD_cons_succ, List.take_succ_cons, List.take_zero, List.drop_succ_cons, Nat.reduceLT, Nat.reduceLeDiff, Nat.reduceEqDiff, Nat.reduceAdd, Nat.reduceMul, Nat.reduceSub, Int.reduceToNat, Int.reduceLE, Int.reduceLT, Int.reduceEq, Int.reduceAdd, ↓reduceIte, decide_true, decide_false, and_self]
            exact ⟨_, _, rfl, rfl, .of_eq (by rw [sameB_ne (fun e => h5 (by rw [e]))]; rfl), rfl⟩
        · have h4' : (f.text == g.text) = false := by simpa using h4
          rw [h4']
          simp (maxSteps := 200000) only [push_cast, List.getD_cons_zero, List.getD_cons_succ, List.take_succ_cons, List.take_zero, List.drop_succ_cons, Nat.reduceLT, Nat.reduceLeDiff, Nat.reduceEqDiff, Nat.reduceAdd, Nat.reduceMul, Nat.reduceSub, Int.reduceToNat, Int.reduceLE, Int.reduceLT, Int.reduceEq, Int.reduceAdd, ↓reduceIte, decide_true, decide_false, and_self]
          exact ⟨_, _, rfl, rfl, .of_eq (by rw [sameB_ne (fun e => h4 (by rw [e]))]; rfl), rfl⟩
      · simp (maxSteps := 200000) only [Try.f29, fCells, h1', h2, h3, beq_self_eq_true, Bool.false_and, Bool.and_false, push_cast, List.getD_cons_zero, List.getD_cons_succ, List.take_succ_cons, List.take_zero, List.drop_succ_cons, Nat.reduceLT, Nat.reduceLeDiff, Nat.reduceEqDiff, Nat.reduceAdd, Nat.reduceMul, Nat.reduceSub, Int.reduceToNat, Int.reduceLE, Int.reduceLT, Int.reduceEq, Int.reduceAdd, ↓reduceIte, decide_true, decide_false, and_self]
        exact ⟨_, _, rfl, rfl, .of_eq (by rw [sameB_ne (fun e => h3 (by rw [e]))]; rfl), rfl⟩
    · simp (maxSteps := 200000) only [Try.f29, fCells, h1', h2, Bool.false_and, Bool.and_false, push_cast, List.getD_cons_zero, List.getD_cons_succ, List.take_succ_cons, List.take_zero, List.drop_succ_cons, Nat.reduceLT, Nat.reduceLeDiff, Nat.reduceEqDiff, Nat.reduceAdd, Nat.reduceMul, Nat.reduceSub, Int.reduceToNat, Int.reduceLE, Int.reduceLT, Int.reduceEq, Int.reduceAdd, ↓reduceIte, decide_true, decide_false, and_self]
      exact ⟨_, _, rfl, rfl, .of_eq (by rw [sameB_ne (fun e => h2 (by rw [e]))]; rfl), rfl⟩
  · have h1' : (f.tag == g.tag) = false := by simpa using h1
    simp (maxSteps := 200000) only [Try.f29, fCells, h1', push_cast, List.getD_cons_zero, List.getD_cons_succ, List.take_succ_cons, List.take_zero, List.drop_succ_cons, Nat.reduceLT, Nat.reduceLeDiff, Nat.reduceEqDiff, Nat.reduceAdd, Nat.reduceMul, Nat.reduceSub, Int.reduceToNat, Int.reduceLE, Int.reduceLT, Int.reduceEq, Int.reduceAdd, ↓reduceIte, decide_true, decide_false, and_self]
    exact ⟨_, _, rfl, rfl, .of_eq (by rw [sameB_ne (fun e => h1 (by rw [e]))]; rfl), rfl⟩
end Go.Proofs.Ytbkmbiccdhnibaa
