/- dir.number -/
import Derived.Test.YtbkmbiccdhnibaaDirP
set_option linter.unusedVariables false
set_option linter.unusedSimpArgs false
namespace Go.Proofs.Ytbkmbiccdhnibaa
open Go Go.Eng
set_option maxRecDepth 100000 in
set_option maxHeartbeats 4000000 in
theorem number_c (l : List Int) (hl : l.length ≤ 5) (hb : ∀ c ∈ l, 0 ≤ c ∧ c < 256) : ACall Try.prog 62 [.sl l.length (u8s l)] (.tup [.int .i64 (numOf l).1, .bool (numOf l).2]) none := by
  refine acall_intro none Try.func62 rfl (by kernel_rfl) (by simp [Try.f62]) ?_
  refine ex_run 100 ?_
  simp only [push_cast, Try.f62, Nat.reduceLT, Nat.reduceEqDiff, ↓reduceIte]
  refine run_keep (l' := [(0, .sl l.length (u8s l)), (2, .int .i64 0), (3, .bool false), (4, .int .i64 0), (7, .sl l.length (u8s l)), (8, .int .i64 l.length), (9, .int .i64 (0 : Nat))]) (t' := []) (nx' := _) ⟨.refl _, .refl _, .refl _, .refl _, .refl _, .refl _, .refl _, trivial⟩ trivial (Nat.le_refl _) ?_
  refine run_loop (fun n s => ∃ (i nx : Nat), i ≤ l.length ∧ n = l.length - i ∧ (∀ c ∈ l.take i, isD c = true) ∧ s = mkS [(0, .sl l.length (u8s l)), (2, .int .i64 0), (3, .bool false), (4, .int .i64 (valOf (l.take i))), (7, .sl l.length (u8s l)), (8, .int .i64 l.length), (9, .int .i64 i)] [] nx) _ ⟨0, _, Nat.zero_le _, rfl, by simp, rfl⟩ ?_
  rintro n s ⟨i, nx, hi, rfl, hall, rfl⟩
  have hw : IntKind.i64.wrap ((i : Int) + 1) = (i : Int) + 1 := wrap_i64 (by omega)
  by_cases h : i < l.length
  · obtain ⟨c, hc⟩ : ∃ c, l.getD i 0 = c := ⟨_, rfl⟩
    have hg : (u8s l).getD i .dead = .int .u8 c := by rw [u8s_getD l i h, hc]
    refine ex_run 100 ?_
    simp (maxSteps := 10000000) only [push_cast, Nat.reduceLT, Nat.reduceEqDiff, ↓reduceIte, Nat.reduceAdd, Nat.mul_one, hg, hw, h, decide_true]
    refine ⟨by omega, fun h1 => ?_, fun h1 => ⟨fun h2 => ?_, fun h2 => ?_⟩⟩
    · have hno : l.all isD = false := all_no h (by rw [hc]; simp [isD]; omega)
      exact ⟨_, _, rfl, rfl, .of_eq (by rw [show numOf l = (0, false) by simp [numOf, hno]]; rfl), rfl⟩
    · have hno : l.all isD = false := all_no h (by rw [hc]; simp [isD]; omega)
      exact ⟨_, _, rfl, rfl, .of_eq (by rw [show numOf l = (0, false) by simp [numOf, hno]]; rfl), rfl⟩
    · have hv := valOf_small hi hl hall
      have e1 : IntKind.u8.wrap (c - 48) = c - 48 := IntWalk.u8_in _ (by omega)
      have e2 : IntKind.i64.wrap (c - 48) = c - 48 := wrap_i64 (by omega)
      have e3 : IntKind.i64.wrap (10 * valOf (l.take i)) = 10 * valOf (l.take i) := wrap_i64 (by omega)
      have e4 : IntKind.i64.wrap (10 * valOf (l.take i) + (c - 48)) = valOf (l.take (i + 1)) := by rw [valOf_succ h, hc]; exact wrap_i64 (by omega)
      rw [e1, e2, e3, e4]
      exact run_back_le (le_mk (l' := [(0, .sl l.length (u8s l)), (2, .int .i64 0), (3, .bool false), (4, .int .i64 (valOf (l.take (i + 1)))), (7, .sl l.length (u8s l)), (8, .int .i64 l.length), (9, .int .i64 (i + 1 : Nat))]) (t' := []) (nx' := _) ⟨.refl _, .refl _, .refl _, .refl _, .refl _, .refl _, .refl _, trivial⟩ trivial (Nat.le_refl _)) ⟨l.length - (i + 1), by omega, i + 1, _, by omega, rfl, take_succ_all h hall (by rw [hc]; simp [isD]; omega), rfl⟩
  · refine ex_run 100 ?_
    simp (maxSteps := 10000000) only [push_cast, Nat.reduceLT, Nat.reduceEqDiff, ↓reduceIte, Nat.reduceAdd, Nat.mul_one, hw, h, decide_false]
    have : i = l.length := by omega
    subst this
    rw [List.take_length] at hall ⊢
    have hyes : l.all isD = true := List.all_eq_true.2 hall
    exact ⟨_, _, rfl, rfl, .of_eq (by rw [show numOf l = (valOf l, true) by simp [numOf, hyes]]; rfl), rfl⟩
end Go.Proofs.Ytbkmbiccdhnibaa
