/- bytes.IndexByte, Count, Index, Split: one byte looked for. -/
import Derived.Test.YteapibifebnboaaDoorMndA
set_option linter.unusedVariables false
set_option linter.unusedSimpArgs false
namespace Go.Proofs.YteapibifebnboaaDoor
open Go Go.Eng
/-- What stands between bytes that part. -/
def splitL (c : Int) : List Int → List (List Int)
  | [] => [[]]
  | x :: t => if x = c then [] :: splitL c t else match splitL c t with
    | [] => [[x]]
    | p :: ps => (x :: p) :: ps
theorem splitL_ne (c : Int) : ∀ l, splitL c l ≠ []
  | [] => by simp [splitL]
  | x :: t => by
    unfold splitL
    split
    · simp
    · split <;> simp
theorem splitL_len (c : Int) : ∀ l : List Int, (splitL c l).length = l.count c + 1
  | [] => rfl
  | x :: t => by
    have ih := splitL_len c t
    unfold splitL
    by_cases h : x = c
    · rw [if_pos h, List.length_cons, ih, h, List.count_cons_self]
    · rw [if_neg h, List.count_cons_of_ne h]
      split
      · rename_i e; exact absurd e (splitL_ne c t)
      · rename_i e; rw [e] at ih; simpa using ih
theorem splitL_none (c : Int) : ∀ l : List Int, l.count c = 0 → splitL c l = [l]
  | [], _ => rfl
  | x :: t, h => by
    by_cases e : x = c
    · rw [e, List.count_cons_self] at h; omega
    · rw [List.count_cons_of_ne e] at h
      unfold splitL
      rw [if_neg e, splitL_none c t h]
theorem splitL_some (c : Int) : ∀ l : List Int, l.count c ≠ 0 → ∃ m : Nat, idxI l c = (m : Int) ∧ m < l.length ∧ splitL c l = l.take m :: splitL c (l.drop (m + 1)) ∧ (l.drop (m + 1)).count c + 1 = l.count c ∧ (l.drop m).head? = some c
  | [], h => absurd rfl h
  | x :: t, h => by
    by_cases e : x = c
    · refine ⟨0, by rw [idxI, if_pos e]; rfl, by simp, ?_, ?_, by rw [e]; rfl⟩
      · rw [splitL, if_pos e]; rfl
      · rw [e, List.count_cons_self]; rfl
    · rw [List.count_cons_of_ne e] at h ⊢
      obtain ⟨m, hm, hlt, hs, hc, hh⟩ := splitL_some c t h
      refine ⟨m + 1, ?_, by simp; omega, ?_, hc, hh⟩
      · rw [idxI, if_neg e, if_neg (by omega), hm]; rfl
      · rw [splitL, if_neg e, hs]; rfl
theorem idxI_none (c : Int) : ∀ l : List Int, l.count c = 0 → idxI l c = -1
  | [], _ => rfl
  | x :: t, h => by
    by_cases e : x = c
    · rw [e, List.count_cons_self] at h; omega
    · rw [List.count_cons_of_ne e] at h
      rw [idxI, if_neg e, idxI_none c t h, if_pos rfl]
set_option maxRecDepth 100000 in
theorem IndexByte_c (l : List Int) (c : Int) (hl : inB l) (hc : 0 ≤ c ∧ c < 256) : ACall Tryd.prog 41 [.sl l.length (u8s l), .int .u8 c] (.int .i64 (idxI l c)) none := by
  refine acall_intro none Tryd.func41 rfl (by kernel_rfl) (by simp [Tryd.f41]) ?_
  refine ex_run 30 ?_
  simp (maxSteps := 200000) only [Tryd.f41, push_cast, List.getD_cons_zero, List.getD_cons_succ, List.take_succ_cons, List.take_zero, List.drop_succ_cons, Nat.reduceLT, Nat.reduceLeDiff, Nat.reduceEqDiff, Nat.reduceAdd, Nat.reduceMul, Nat.reduceSub, Int.reduceToNat, Int.reduceLE, Int.reduceLT, Int.reduceEq, Int.reduceAdd, ↓reduceIte, decide_true, decide_false, and_self]
  refine call_introX (idx_x l c hl hc) (fun h => by cases h) ?_
  simp (maxSteps := 200000) only [push_cast, List.getD_cons_zero, List.getD_cons_succ, List.take_succ_cons, List.take_zero, List.drop_succ_cons, Nat.reduceLT, Nat.reduceLeDiff, Nat.reduceEqDiff, Nat.reduceAdd, Nat.reduceMul, Nat.reduceSub, Int.reduceToNat, Int.reduceLE, Int.reduceLT, Int.reduceEq, Int.reduceAdd, ↓reduceIte, decide_true, decide_false, and_self]
  exact ⟨_, _, rfl, rfl, .refl _, rfl⟩
set_option maxRecDepth 100000 in
theorem Count1_c (l : List Int) (c : Int) (hl : inB l) (hc : 0 ≤ c ∧ c < 256) : ACall Tryd.prog 82 [.sl l.length (u8s l), .sl 1 [.int .u8 c]] (.int .i64 (l.count c)) none := by
  refine acall_intro none Tryd.func82 rfl (by kernel_rfl) (by simp [Tryd.f82]) ?_
  refine ex_run 30 ?_
  simp (maxSteps := 200000) only [Tryd.f82, push_cast, List.getD_cons_zero, List.getD_cons_succ, List.take_succ_cons, List.take_zero, List.drop_succ_cons, Nat.reduceLT, Nat.reduceLeDiff, Nat.reduceEqDiff, Nat.reduceAdd, Nat.reduceMul, Nat.reduceSub, Int.reduceToNat, Int.reduceLE, Int.reduceLT, Int.reduceEq, Int.reduceAdd, ↓reduceIte, decide_true, decide_false, and_self]
  refine call_introX (cnt_x l c hl hc) (fun h => by cases h) ?_
  simp (maxSteps := 200000) only [push_cast, List.getD_cons_zero, List.getD_cons_succ, List.take_succ_cons, List.take_zero, List.drop_succ_cons, Nat.reduceLT, Nat.reduceLeDiff, Nat.reduceEqDiff, Nat.reduceAdd, Nat.reduceMul, Nat.reduceSub, Int.reduceToNat, Int.reduceLE, Int.reduceLT, Int.reduceEq, Int.reduceAdd, ↓reduceIte, decide_true, decide_false, and_self]
  exact ⟨_, _, rfl, rfl, .refl _, rfl⟩
set_option maxRecDepth 100000 in
theorem Index1_c (l : List Int) (c : Int) (hl : inB l) (hc : 0 ≤ c ∧ c < 256) : ACall Tryd.prog 83 [.sl l.length (u8s l), .sl 1 [.int .u8 c]] (.int .i64 (idxI l c)) none := by
  refine acall_intro none Tryd.func83 rfl (by kernel_rfl) (by simp [Tryd.f83]) ?_
  refine ex_run 30 ?_
  simp (maxSteps := 200000) only [Tryd.f83, push_cast, List.getD_cons_zero, List.getD_cons_succ, List.take_succ_cons, List.take_zero, List.drop_succ_cons, Nat.reduceLT, Nat.reduceLeDiff, Nat.reduceEqDiff, Nat.reduceAdd, Nat.reduceMul, Nat.reduceSub, Int.reduceToNat, Int.reduceLE, Int.reduceLT, Int.reduceEq, Int.reduceAdd, ↓reduceIte, decide_true, decide_false, and_self]
  refine call_intro (IndexByte_c l c hl hc) (fun h => by cases h) ?_
  simp (maxSteps := 200000) only [push_cast, List.getD_cons_zero, List.getD_cons_succ, List.take_succ_cons, List.take_zero, List.drop_succ_cons, Nat.reduceLT, Nat.reduceLeDiff, Nat.reduceEqDiff, Nat.reduceAdd, Nat.reduceMul, Nat.reduceSub, Int.reduceToNat, Int.reduceLE, Int.reduceLT, Int.reduceEq, Int.reduceAdd, ↓reduceIte, decide_true, decide_false, and_self]
  exact ⟨_, _, rfl, rfl, .refl _, rfl⟩
end Go.Proofs.YteapibifebnboaaDoor
