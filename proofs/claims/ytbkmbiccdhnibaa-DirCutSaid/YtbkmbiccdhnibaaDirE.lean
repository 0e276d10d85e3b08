/- dir.entry -/
import Derived.Test.YtbkmbiccdhnibaaDirG
import Derived.Test.YtbkmbiccdhnibaaDirC
set_option linter.unusedVariables false
set_option linter.unusedSimpArgs false
namespace Go.Proofs.Ytbkmbiccdhnibaa
open Go Go.Eng
theorem number_n (l : List Int) (n : Nat) (hn : l.length = n) (hl : n ≤ 5) (hb : ∀ c ∈ l, 0 ≤ c ∧ c < 256) : ACall Try.prog 62 [.sl n (u8s l)] (.tup [.int .i64 (numOf l).1, .bool (numOf l).2]) none := by
  subst hn; exact number_c l hl hb
def entryOf (l : List Int) : AV × Bool :=
  (.agg [.str (l.take 3), .int .i64 (numOf ((l.drop 3).take 4)).1, .int .i64 (numOf ((l.drop 7).take 5)).1],
    (numOf ((l.drop 3).take 4)).2 && (numOf ((l.drop 7).take 5)).2 && goodTag (l.take 3) && decide (0 < (numOf ((l.drop 3).take 4)).1))
set_option maxRecDepth 100000 in
set_option maxHeartbeats 4000000 in
theorem entry_c (l : List Int) (hl : l.length = 12) (hb : ∀ c ∈ l, 0 ≤ c ∧ c < 256) : ACall Try.prog 42 [.sl l.length (u8s l)] (.tup [(entryOf l).1, .bool (entryOf l).2]) none := by
  have n3 : u8n (l.take 3) = l.take 3 := u8n_eq fun c hc => hb c (List.mem_of_mem_take hc)
  have e1 : List.drop 3 (List.take 7 l) = (l.drop 3).take 4 := by rw [List.drop_take]
  have e2 : List.drop 7 (List.take 12 l) = (l.drop 7).take 5 := by rw [List.drop_take]
  refine acall_intro none Try.func42 rfl (by kernel_rfl) (by simp [Try.f42]) ?_
  refine ex_run 30 ?_
  simp (maxSteps := 200000) only [Try.f42, n3, e1, push_cast, List.getD_cons_zero, List.getD_cons_succ, List.take_succ_cons, List.take_zero, List.drop_succ_cons, Nat.reduceLT, Nat.reduceLeDiff, Nat.reduceEqDiff, Nat.reduceAdd, Nat.reduceMul, Nat.reduceSub, Int.reduceToNat, Int.reduceLE, ↓reduceIte]
  refine ⟨by omega, by simp; omega, by omega, ?_⟩
  refine call_intro (number_n _ 4 (by simp; omega) (by omega) fun c hc => hb c (List.mem_of_mem_drop (List.mem_of_mem_take hc))) (fun h => by cases h) ?_
  generalize hn1 : numOf ((l.drop 3).take 4) = n1
  simp (maxSteps := 200000) only [e2, push_cast, List.getD_cons_zero, List.getD_cons_succ, List.take_succ_cons, List.take_zero, List.drop_succ_cons, Nat.reduceLT, Nat.reduceLeDiff, Nat.reduceEqDiff, Nat.reduceAdd, Nat.reduceMul, Nat.reduceSub, Int.reduceToNat, Int.reduceLE, ↓reduceIte]
  refine ⟨by omega, ?_⟩
  refine call_intro (number_n _ 5 (by simp; omega) (by omega) fun c hc => hb c (List.mem_of_mem_drop (List.mem_of_mem_take hc))) (fun h => by cases h) ?_
  generalize hn2 : numOf ((l.drop 7).take 5) = n2
  obtain ⟨v1, b1⟩ := n1
  obtain ⟨v2, b2⟩ := n2
  cases b1 <;> cases b2
  all_goals simp (maxSteps := 200000) only [push_cast, List.getD_cons_zero, List.getD_cons_succ, List.take_succ_cons, List.take_zero, List.drop_succ_cons, Nat.reduceLT, Nat.reduceLeDiff, Nat.reduceEqDiff, Nat.reduceAdd, Nat.reduceMul, Nat.reduceSub, Int.reduceToNat, Int.reduceLE, ↓reduceIte]
  · refine ⟨by kernel_rfl, by kernel_rfl, _, _, rfl, rfl, .of_eq ?_, rfl⟩
    simp only [entryOf, hn1, hn2]; rfl
  · refine ⟨by kernel_rfl, by kernel_rfl, _, _, rfl, rfl, .of_eq ?_, rfl⟩
    simp only [entryOf, hn1, hn2]; rfl
  · refine ⟨by kernel_rfl, by kernel_rfl, _, _, rfl, rfl, .of_eq ?_, rfl⟩
    simp only [entryOf, hn1, hn2]; rfl
  · refine ⟨by kernel_rfl, ?_⟩
    refine call_introF (GoodTag_c (l.take 3) (by simp; omega)) (fun h => by cases h) ?_
    generalize hg : goodTag (l.take 3) = g
    cases g
    all_goals simp (maxSteps := 200000) only [push_cast, List.getD_cons_zero, List.getD_cons_succ, List.take_succ_cons, List.take_zero, List.drop_succ_cons, Nat.reduceLT, Nat.reduceLeDiff, Nat.reduceEqDiff, Nat.reduceAdd, Nat.reduceMul, Nat.reduceSub, Int.reduceToNat, Int.reduceLE, ↓reduceIte]
    · refine ⟨by kernel_rfl, _, _, rfl, rfl, .of_eq ?_, rfl⟩
      simp only [entryOf, hn1, hn2, hg]; rfl
    · refine ⟨by kernel_rfl, _, _, rfl, rfl, .of_eq ?_, rfl⟩
      simp only [entryOf, hn1, hn2, hg]; rfl
end Go.Proofs.Ytbkmbiccdhnibaa
