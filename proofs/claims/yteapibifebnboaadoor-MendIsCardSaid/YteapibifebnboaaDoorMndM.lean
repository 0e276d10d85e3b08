/- law23.answers -/
import Derived.Test.YteapibifebnboaaDoorMndL
set_option linter.unusedVariables false
set_option linter.unusedSimpArgs false
namespace Go.Proofs.YteapibifebnboaaDoor
open Go Go.Eng
def mend0 : List Int := [48, 48, 48, 50, 54, 32, 32, 32, 32, 32, 50, 50, 48, 48, 48, 50, 53, 32, 32, 32, 52, 53, 48, 48, 30, 29]
theorem mendM_nil : mendM [] = mend0 := by kernel_rfl
set_option maxRecDepth 100000 in
theorem answers23_c : ACall Tryd.prog 8 [] (.bool true) none := by
  have hM := Mend_c [] (fun c hc => by cases hc) (by decide)
  rw [mendM_nil] at hM
  have hl : mend0.length = 26 := rfl
  have hg : (u8s mend0).getD 25 .dead = .int .u8 29 := rfl
  have hcl := u8s_closed mend0
  rw [hl] at hM
  have hul : (u8s mend0).length = 26 := rfl
  generalize u8s mend0 = X at *
  refine acall_intro none Tryd.func8 rfl (by kernel_rfl) (by simp [Tryd.f8]) ?_
  refine ex_run 30 ?_
  simp (maxSteps := 200000) only [Tryd.f8, push_cast, List.getD_cons_zero, List.getD_cons_succ, List.take_succ_cons, List.take_zero, List.drop_succ_cons, Nat.reduceLT, Nat.reduceLeDiff, Nat.reduceEqDiff, Nat.reduceAdd, Nat.reduceMul, Nat.reduceSub, Int.reduceToNat, Int.reduceLE, Int.reduceLT, Int.reduceEq, Int.reduceAdd, ↓reduceIte, decide_true, decide_false, and_self]
  refine call_intro hM (fun h => by cases h) ?_
  simp (maxSteps := 200000) only [hg, hcl, hul, push_cast, List.getD_cons_zero, List.getD_cons_succ, List.take_succ_cons, List.take_zero, List.drop_succ_cons, Nat.reduceLT, Nat.reduceLeDiff, Nat.reduceEqDiff, Nat.reduceAdd, Nat.reduceMul, Nat.reduceSub, Int.reduceToNat, Int.reduceLE, Int.reduceLT, Int.reduceEq, Int.reduceAdd, ↓reduceIte, decide_true, decide_false, and_self]
  exact ⟨_, _, rfl, rfl, .refl _, rfl⟩
end Go.Proofs.YteapibifebnboaaDoor
