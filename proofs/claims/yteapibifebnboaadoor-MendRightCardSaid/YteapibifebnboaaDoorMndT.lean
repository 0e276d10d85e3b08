/- Law MendRight: the walk. -/
import Derived.Test.YteapibifebnboaaDoorMndS
import Derived.Test.YteapibifebnboaaDoorMndM
set_option linter.unusedVariables false
set_option linter.unusedSimpArgs false
namespace Go.Proofs.YteapibifebnboaaDoor
open Go Go.Eng
set_option maxRecDepth 100000 in
set_option maxHeartbeats 8000000 in
theorem MendRight_c (b : List Int) (hl : inB b) (hn : b.length ≤ 140737488351232) : ACall Tryd.prog 4 [.sl b.length (u8s b)] (.bool true) none := by
  refine acall_intro none Tryd.func4 rfl (by kernel_rfl) (by simp [Tryd.f4]) ?_
  by_cases h1 : 20000 < b.length
  · have h1' : (20000 : Int) < (b.length : Int) := by omega
    refine ex_run 30 ?_
    simp (maxSteps := 200000) only [Tryd.f4, h1', push_cast, List.getD_cons_zero, List.getD_cons_succ, List.take_succ_cons, List.take_zero, List.drop_succ_cons, Nat.reduceLT, Nat.reduceLeDiff, Nat.reduceEqDiff, Nat.reduceAdd, Nat.reduceMul, Nat.reduceSub, Int.reduceToNat, Int.reduceLE, Int.reduceLT, Int.reduceEq, Int.reduceAdd, ↓reduceIte, decide_true, decide_false, and_self]
    refine call_intro answers23_c (fun h => by cases h) ?_
    simp (maxSteps := 200000) only [push_cast, List.getD_cons_zero, List.getD_cons_succ, List.take_succ_cons, List.take_zero, List.drop_succ_cons, Nat.reduceLT, Nat.reduceLeDiff, Nat.reduceEqDiff, Nat.reduceAdd, Nat.reduceMul, Nat.reduceSub, Int.reduceToNat, Int.reduceLE, Int.reduceLT, Int.reduceEq, Int.reduceAdd, ↓reduceIte, decide_true, decide_false, and_self]
    exact ⟨_, _, rfl, rfl, .refl _, rfl⟩
  · have h1' : ¬ (20000 : Int) < (b.length : Int) := by omega
    have hM := Mend_c b hl (by omega)
    have hin := mend_in hl
    have hlen := mend_len hl
    obtain ⟨rx, hrx⟩ := mend_parse hl
    have hM2 := Mend_c (mendM b) hin (by omega)
    rw [mend_idem hl] at hM2
    have hP := rPParse_c (mendM b) (by omega) hin
    rw [hrx] at hP
    have hPb := rPParse_c b (by omega) hl
    have hS := same_c (mendM b) (mendM b) (by omega)
    rw [beq_self_eq_true] at hS
    have hS2 := same_c (mendM b) b (by omega)
    have hgood : ∀ r, rparse b = .inr r → mendM b = b := fun r h => mend_good h
    have hxc := u8s_closed (mendM b)
    generalize mendM b = x at *
    have hrc : closedL (rowCells rx.fields) = true := rowCells_closed _
    have w1 : IntKind.i64.wrap (12 * (b.length : Int)) = 12 * (b.length : Int) := wrap_i64 (by omega)
    have w2 : IntKind.i64.wrap (26 + 12 * (b.length : Int)) = 26 + 12 * (b.length : Int) := wrap_i64 (by omega)
    have hle : (x.length : Int) ≤ 26 + 12 * (b.length : Int) := by omega
    refine ex_run 60 ?_
    simp (maxSteps := 200000) only [Tryd.f4, h1', push_cast, List.getD_cons_zero, List.getD_cons_succ, List.take_succ_cons, List.take_zero, List.drop_succ_cons, Nat.reduceLT, Nat.reduceLeDiff, Nat.reduceEqDiff, Nat.reduceAdd, Nat.reduceMul, Nat.reduceSub, Int.reduceToNat, Int.reduceLE, Int.reduceLT, Int.reduceEq, Int.reduceAdd, ↓reduceIte, decide_true, decide_false, and_self]
    refine call_intro hM (fun h => by cases h) ?_
    simp (maxSteps := 200000) only [push_cast, List.getD_cons_zero, List.getD_cons_succ, List.take_succ_cons, List.take_zero, List.drop_succ_cons, Nat.reduceLT, Nat.reduceLeDiff, Nat.reduceEqDiff, Nat.reduceAdd, Nat.reduceMul, Nat.reduceSub, Int.reduceToNat, Int.reduceLE, Int.reduceLT, Int.reduceEq, Int.reduceAdd, ↓reduceIte, decide_true, decide_false, and_self]
    refine call_intro hP (fun h => by cases h) ?_
    simp (maxSteps := 200000) only [rres, rCells, hrc, flt, push_cast, List.getD_cons_zero, List.getD_cons_succ, List.take_succ_cons, List.take_zero, List.drop_succ_cons, Nat.reduceLT, Nat.reduceLeDiff, Nat.reduceEqDiff, Nat.reduceAdd, Nat.reduceMul, Nat.reduceSub, Int.reduceToNat, Int.reduceLE, Int.reduceLT, Int.reduceEq, Int.reduceAdd, ↓reduceIte, decide_true, decide_false, and_self]
    refine call_intro hPb (fun h => by cases h) ?_
    cases hp : rparse b with
    | inr r =>
      have hrc2 : closedL (rowCells r.fields) = true := rowCells_closed _
      have e := hgood r hp
      rw [e, beq_self_eq_true] at hS2
      simp (maxSteps := 200000) only [rres, rCells, hrc, hrc2, flt, push_cast, List.getD_cons_zero, List.getD_cons_succ, List.take_succ_cons, List.take_zero, List.drop_succ_cons, Nat.reduceLT, Nat.reduceLeDiff, Nat.reduceEqDiff, Nat.reduceAdd, Nat.reduceMul, Nat.reduceSub, Int.reduceToNat, Int.reduceLE, Int.reduceLT, Int.reduceEq, Int.reduceAdd, ↓reduceIte, decide_true, decide_false, and_self]
      refine call_intro answers23_c (fun h => by cases h) ?_
      simp (maxSteps := 200000) only [hrc, hrc2, push_cast, List.getD_cons_zero, List.getD_cons_succ, List.take_succ_cons, List.take_zero, List.drop_succ_cons, Nat.reduceLT, Nat.reduceLeDiff, Nat.reduceEqDiff, Nat.reduceAdd, Nat.reduceMul, Nat.reduceSub, Int.reduceToNat, Int.reduceLE, Int.reduceLT, Int.reduceEq, Int.reduceAdd, ↓reduceIte, decide_true, decide_false, and_self]
      refine call_intro hM2 (fun h => by cases h) ?_
      simp (maxSteps := 200000) only [hrc, hrc2, hxc, push_cast, List.getD_cons_zero, List.getD_cons_succ, List.take_succ_cons, List.take_zero, List.drop_succ_cons, Nat.reduceLT, Nat.reduceLeDiff, Nat.reduceEqDiff, Nat.reduceAdd, Nat.reduceMul, Nat.reduceSub, Int.reduceToNat, Int.reduceLE, Int.reduceLT, Int.reduceEq, Int.reduceAdd, ↓reduceIte, decide_true, decide_false, and_self]
      refine call_intro hS (fun h => by cases h) ?_
      simp (maxSteps := 200000) only [hrc, hrc2, hxc, push_cast, List.getD_cons_zero, List.getD_cons_succ, List.take_succ_cons, List.take_zero, List.drop_succ_cons, Nat.reduceLT, Nat.reduceLeDiff, Nat.reduceEqDiff, Nat.reduceAdd, Nat.reduceMul, Nat.reduceSub, Int.reduceToNat, Int.reduceLE, Int.reduceLT, Int.reduceEq, Int.reduceAdd, ↓reduceIte, decide_true, decide_false, and_self]
      rw [e]
      refine call_intro hS2 (fun h => by cases h) ?_
      rw [e] at hle
      simp (maxSteps := 200000) only [hrc, hrc2, hxc, hle, w1, w2, push_cast, List.getD_cons_zero, List.getD_cons_succ, List.take_succ_cons, List.take_zero, List.drop_succ_cons, Nat.reduceLT, Nat.reduceLeDiff, Nat.reduceEqDiff, Nat.reduceAdd, Nat.reduceMul, Nat.reduceSub, Int.reduceToNat, Int.reduceLE, Int.reduceLT, Int.reduceEq, Int.reduceAdd, ↓reduceIte, decide_true, decide_false, and_self]
      exact ⟨_, _, rfl, rfl, .refl _, rfl⟩
    | inl y =>
      obtain ⟨e, a⟩ := y
      obtain ⟨he, ha1, ha2⟩ := rparse_inl hp
      simp (maxSteps := 200000) only [rres, rCells, zeroR, rowCells, List.flatMap_nil, List.length_nil, hrc, flt, he, push_cast, List.getD_cons_zero, List.getD_cons_succ, List.take_succ_cons, List.take_zero, List.drop_succ_cons, Nat.reduceLT, Nat.reduceLeDiff, Nat.reduceEqDiff, Nat.reduceAdd, Nat.reduceMul, Nat.reduceSub, Int.reduceToNat, Int.reduceLE, Int.reduceLT, Int.reduceEq, Int.reduceAdd, ↓reduceIte, decide_true, decide_false, and_self]
      refine call_intro answers23_c (fun h => by cases h) ?_
      simp (maxSteps := 200000) only [hrc, push_cast, List.getD_cons_zero, List.getD_cons_succ, List.take_succ_cons, List.take_zero, List.drop_succ_cons, Nat.reduceLT, Nat.reduceLeDiff, Nat.reduceEqDiff, Nat.reduceAdd, Nat.reduceMul, Nat.reduceSub, Int.reduceToNat, Int.reduceLE, Int.reduceLT, Int.reduceEq, Int.reduceAdd, ↓reduceIte, decide_true, decide_false, and_self]
      refine call_intro hM2 (fun h => by cases h) ?_
      simp (maxSteps := 200000) only [hrc, hxc, push_cast, List.getD_cons_zero, List.getD_cons_succ, List.take_succ_cons, List.take_zero, List.drop_succ_cons, Nat.reduceLT, Nat.reduceLeDiff, Nat.reduceEqDiff, Nat.reduceAdd, Nat.reduceMul, Nat.reduceSub, Int.reduceToNat, Int.reduceLE, Int.reduceLT, Int.reduceEq, Int.reduceAdd, ↓reduceIte, decide_true, decide_false, and_self]
      refine call_intro hS (fun h => by cases h) ?_
      simp (maxSteps := 200000) only [hrc, hxc, he, hle, w1, w2, push_cast, List.getD_cons_zero, List.getD_cons_succ, List.take_succ_cons, List.take_zero, List.drop_succ_cons, Nat.reduceLT, Nat.reduceLeDiff, Nat.reduceEqDiff, Nat.reduceAdd, Nat.reduceMul, Nat.reduceSub, Int.reduceToNat, Int.reduceLE, Int.reduceLT, Int.reduceEq, Int.reduceAdd, ↓reduceIte, decide_true, decide_false, and_self]
      exact ⟨_, _, rfl, rfl, .refl _, rfl⟩
end Go.Proofs.YteapibifebnboaaDoor
