/- dir.GoodTag and its like in ref19. -/
import Derived.Test.YtbkmbiccdhnibaaDirN
set_option linter.unusedVariables false
set_option linter.unusedSimpArgs false
namespace Go.Proofs.Ytbkmbiccdhnibaa
open Go Go.Eng
set_option maxRecDepth 100000 in
set_option maxHeartbeats 4000000 in
theorem GoodTag_c (l : List Int) (hl : l.length ≤ 9223372036854775807) : ACall Try.prog 44 [.str l] (.bool (goodTag l)) none := by
  refine acall_intro none Try.func44 rfl (by kernel_rfl) (by simp [Try.f44]) ?_
  refine ex_run 100 ?_
  simp only [push_cast, Try.f44, Nat.reduceLT, Nat.reduceEqDiff, ↓reduceIte]
  refine run_keep (l' := [(0, .str l), (2, .bool false), (6, .int .i64 l.length), (7, .int .i64 (0 : Nat))]) (t' := []) (nx' := _) ⟨.refl _, .refl _, .refl _, .refl _, trivial⟩ trivial (Nat.le_refl _) ?_
  refine run_loop (fun n s => ∃ (i nx : Nat), i ≤ l.length ∧ n = l.length - i ∧ (∀ c ∈ l.take i, isTagC c = true) ∧ s = mkS [(0, .str l), (2, .bool false), (6, .int .i64 l.length), (7, .int .i64 i)] [] nx) _ ⟨0, _, Nat.zero_le _, rfl, by simp, rfl⟩ ?_
  rintro n s ⟨i, nx, hi, rfl, hall, rfl⟩
  by_cases h : i < l.length
  · have hw : IntKind.i64.wrap ((i : Int) + 1) = (i : Int) + 1 := wrap_i64 (by omega)
    obtain ⟨c, hc⟩ : ∃ c, l.getD i 0 = c := ⟨_, rfl⟩
    refine ex_run 100 ?_
    simp (maxSteps := 10000000) only [push_cast, Nat.reduceLT, Nat.reduceEqDiff, ↓reduceIte, Nat.reduceAdd, hc, hw, h, decide_true]
    repeat' (first | apply And.intro | intro _)
    all_goals try assumption
    all_goals first
      | (refine run_back_le (le_mk (l' := [(0, .str l), (2, .bool false), (6, .int .i64 l.length), (7, .int .i64 (i + 1 : Nat))]) (t' := []) (nx' := _) ⟨.refl _, .refl _, .refl _, .refl _, trivial⟩ trivial (Nat.le_refl _)) ⟨l.length - (i + 1), by omega, i + 1, _, by omega, rfl, take_succ_all (by assumption) hall (by rw [hc]; simp [isTagC]; omega), rfl⟩)
      | (refine ⟨_, _, rfl, rfl, .of_eq (congrArg AV.bool (goodTag_no (by assumption) (by rw [hc]; simp [isTagC]; omega)).symm), rfl⟩)
      | omega
  · refine ex_run 100 ?_
    simp (maxSteps := 10000000) only [push_cast, Nat.reduceLT, Nat.reduceEqDiff, ↓reduceIte, Nat.reduceAdd, h, decide_false]
    refine ⟨_, _, rfl, rfl, .of_eq (congrArg AV.bool ?_), rfl⟩
    have : i = l.length := by omega
    subst this
    rw [List.take_length] at hall
    have h1 : l.all isTagC = true := List.all_eq_true.2 hall
    simp only [goodTag, h1, Bool.true_and]
    by_cases h3 : l.length = 3
    · simp [h3]
    · have h4 : ¬ ((l.length : Int) = 3) := by omega
      simp [h3, h4]
set_option maxRecDepth 100000 in
set_option maxHeartbeats 4000000 in
theorem RTag_c (l : List Int) (hl : l.length ≤ 9223372036854775807) : ACall Try.prog 20 [.str l] (.bool (goodTag l)) none := by
  refine acall_intro none Try.func20 rfl (by kernel_rfl) (by simp [Try.f20]) ?_
  refine ex_run 100 ?_
  simp only [push_cast, Try.f20, Nat.reduceLT, Nat.reduceEqDiff, ↓reduceIte]
  refine run_keep (l' := [(0, .str l), (2, .bool false), (3, .int .i64 (0 : Nat))]) (t' := []) (nx' := _) ⟨.refl _, .refl _, .refl _, trivial⟩ trivial (Nat.le_refl _) ?_
  refine run_loop (fun n s => ∃ (i nx : Nat), i ≤ l.length ∧ n = l.length - i ∧ (∀ c ∈ l.take i, isTagC c = true) ∧ s = mkS [(0, .str l), (2, .bool false), (3, .int .i64 i)] [] nx) _ ⟨0, _, Nat.zero_le _, rfl, by simp, rfl⟩ ?_
  rintro n s ⟨i, nx, hi, rfl, hall, rfl⟩
  by_cases h : i < l.length
  · have hw : IntKind.i64.wrap ((i : Int) + 1) = (i : Int) + 1 := wrap_i64 (by omega)
    obtain ⟨c, hc⟩ : ∃ c, l.getD i 0 = c := ⟨_, rfl⟩
    refine ex_run 100 ?_
    simp (maxSteps := 10000000) only [push_cast, Nat.reduceLT, Nat.reduceEqDiff, ↓reduceIte, Nat.reduceAdd, hc, hw, h, decide_true]
    repeat' (first | apply And.intro | intro _)
    all_goals try assumption
    all_goals first
      | (refine run_back_le (le_mk (l' := [(0, .str l), (2, .bool false), (3, .int .i64 (i + 1 : Nat))]) (t' := []) (nx' := _) ⟨.refl _, .refl _, .refl _, trivial⟩ trivial (Nat.le_refl _)) ⟨l.length - (i + 1), by omega, i + 1, _, by omega, rfl, take_succ_all (by assumption) hall (by rw [hc]; simp [isTagC]; omega), rfl⟩)
      | (refine ⟨_, _, rfl, rfl, .of_eq (congrArg AV.bool (goodTag_no (by assumption) (by rw [hc]; simp [isTagC]; omega)).symm), rfl⟩)
      | omega
  · refine ex_run 100 ?_
    simp (maxSteps := 10000000) only [push_cast, Nat.reduceLT, Nat.reduceEqDiff, ↓reduceIte, Nat.reduceAdd, h, decide_false]
    refine ⟨_, _, rfl, rfl, .of_eq (congrArg AV.bool ?_), rfl⟩
    have : i = l.length := by omega
    subst this
    rw [List.take_length] at hall
    have h1 : l.all isTagC = true := List.all_eq_true.2 hall
    simp only [goodTag, h1, Bool.true_and]
    by_cases h3 : l.length = 3
    · simp [h3]
    · have h4 : ¬ ((l.length : Int) = 3) := by omega
      simp [h3, h4]
end Go.Proofs.Ytbkmbiccdhnibaa
