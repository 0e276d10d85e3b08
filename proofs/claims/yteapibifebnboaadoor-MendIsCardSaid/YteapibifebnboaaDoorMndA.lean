/- bytes.Repeat of a blank, 24 times. -/
import Derived.Test.YteapibifebnboaaDoorGRc
import Derived.Test.YteapibifebnboaaDoorE21
set_option linter.unusedVariables false
set_option linter.unusedSimpArgs false
namespace Go.Proofs.YteapibifebnboaaDoor
open Go Go.Eng
set_option maxRecDepth 100000 in
theorem Mul64_c : ACall Tryd.prog 75 [.int .u64 1, .int .u64 24] (.tup [.int .u64 0, .int .u64 24]) none := by
  have b1 : bits .and .u64 1 4294967295 = 1 := by decide
  have b2 : bits .and .u64 24 4294967295 = 24 := by decide
  have b3 : bits .and .u64 0 4294967295 = 0 := by decide
  refine acall_intro none Tryd.func75 rfl (by kernel_rfl) (by simp [Tryd.f75]) ?_
  refine ex_run 60 ?_
  simp (maxSteps := 200000) only [Tryd.f75, b1, b2, b3, push_cast, List.getD_cons_zero, List.getD_cons_succ, List.take_succ_cons, List.take_zero, List.drop_succ_cons, Nat.reduceLT, Nat.reduceLeDiff, Nat.reduceEqDiff, Nat.reduceAdd, Nat.reduceMul, Nat.reduceSub, Int.reduceToNat, Int.reduceLE, Int.reduceLT, Int.reduceEq, Int.reduceAdd, ↓reduceIte, decide_true, decide_false, and_self]
  exact ⟨_, _, rfl, rfl, .of_eq (by kernel_rfl), rfl⟩
set_option maxRecDepth 100000 in
theorem Mul_c : ACall Tryd.prog 54 [.int .u64 1, .int .u64 24] (.tup [.int .u64 0, .int .u64 24]) none := by
  refine acall_intro none Tryd.func54 rfl (by kernel_rfl) (by simp [Tryd.f54]) ?_
  refine ex_run 60 ?_
  simp (maxSteps := 200000) only [Tryd.f54, push_cast, List.getD_cons_zero, List.getD_cons_succ, List.take_succ_cons, List.take_zero, List.drop_succ_cons, Nat.reduceLT, Nat.reduceLeDiff, Nat.reduceEqDiff, Nat.reduceAdd, Nat.reduceMul, Nat.reduceSub, Int.reduceToNat, Int.reduceLE, Int.reduceLT, Int.reduceEq, Int.reduceAdd, ↓reduceIte, decide_true, decide_false, and_self]
  refine call_intro Mul64_c (fun h => by cases h) ?_
  simp (maxSteps := 200000) only [push_cast, List.getD_cons_zero, List.getD_cons_succ, List.take_succ_cons, List.take_zero, List.drop_succ_cons, Nat.reduceLT, Nat.reduceLeDiff, Nat.reduceEqDiff, Nat.reduceAdd, Nat.reduceMul, Nat.reduceSub, Int.reduceToNat, Int.reduceLE, Int.reduceLT, Int.reduceEq, Int.reduceAdd, ↓reduceIte, decide_true, decide_false, and_self]
  exact ⟨_, _, rfl, rfl, .refl _, rfl⟩
theorem makeNoZero_x (n : Nat) (h : n ≤ 281474976710656) : XCall Tryd.prog 55 [.int .i64 n] (.own 0 0 0 n) (some ⟨0, 1, List.replicate n .dead⟩) :=
  x_makeNoZero (ps := #[3]) (rs := #[22]) (t := 22) (elem := 5) Tryd.func55 (by kernel_rfl) (by kernel_rfl) (by kernel_rfl) (by kernel_rfl) rfl Tryd.underlying22 n h
theorem idx_x (l : List Int) (c : Int) (hl : inB l) (hc : 0 ≤ c ∧ c < 256) : XCall Tryd.prog 63 [.sl l.length (u8s l), .int .u8 c] (.int .i64 (idxI l c)) none :=
  x_indexByte Tryd.func63 (by kernel_rfl) (by kernel_rfl) (by kernel_rfl) (by kernel_rfl) l c hl hc
theorem cnt_x (l : List Int) (c : Int) (hl : inB l) (hc : 0 ≤ c ∧ c < 256) : XCall Tryd.prog 91 [.sl l.length (u8s l), .int .u8 c] (.int .i64 (l.count c)) none :=
  x_count Tryd.func91 (by kernel_rfl) (by kernel_rfl) (by kernel_rfl) (by kernel_rfl) l c hl hc
/-- The row while it is filled: so many blanks, the rest unknown. -/
def blanks (k : Nat) : List AV := List.replicate k (.int .u8 32) ++ List.replicate (24 - k) .dead
theorem blanks_len (k : Nat) (h : k ≤ 24) : (blanks k).length = 24 := by simp [blanks]; omega
theorem blanks_copy (k m : Nat) (h : k + m ≤ 24) : setAll (blanks k) k (List.replicate m (.int .u8 32)) = blanks (k + m) := by
  rw [setAll_eq _ _ _ (by rw [blanks_len k (by omega), List.length_replicate]; exact h), List.length_replicate]
  unfold blanks
  rw [List.take_left' (by simp), List.drop_append]
  simp only [List.length_replicate, List.drop_replicate, List.replicate_append_replicate]
  rw [show k - (k + m) = 0 by omega, List.replicate_zero, List.nil_append, show 24 - k - (k + m - k) = 24 - (k + m) by omega]
set_option maxRecDepth 100000 in
set_option maxHeartbeats 8000000 in
theorem Repeat_c : ACall Tryd.prog 29 [.sl 1 [.int .u8 32], .int .i64 24] (.own 0 0 0 24) (some ⟨0, 1, u8s (List.replicate 24 32)⟩) := by
  refine acall_intro (some 54) Tryd.func29 rfl (by kernel_rfl) (by simp [Tryd.f29]) ?_
  have w1 : IntKind.u64.wrap 1 = 1 := by decide
  have w2 : IntKind.u64.wrap 24 = 24 := by decide
  have w3 : IntKind.i64.wrap 24 = 24 := by decide
  refine ex_run 100 ?_
  simp (maxSteps := 200000) only [Tryd.f29, w1, w2, push_cast, List.getD_cons_zero, List.getD_cons_succ, List.take_succ_cons, List.take_zero, List.drop_succ_cons, Nat.reduceLT, Nat.reduceLeDiff, Nat.reduceEqDiff, Nat.reduceAdd, Nat.reduceMul, Nat.reduceSub, Int.reduceToNat, Int.reduceLE, Int.reduceLT, Int.reduceEq, Int.reduceAdd, ↓reduceIte, decide_true, decide_false, and_self]
  refine call_intro Mul_c (fun h => by cases h) ?_
  simp (maxSteps := 200000) only [w1, w2, w3, push_cast, List.getD_cons_zero, List.getD_cons_succ, List.take_succ_cons, List.take_zero, List.drop_succ_cons, Nat.reduceLT, Nat.reduceLeDiff, Nat.reduceEqDiff, Nat.reduceAdd, Nat.reduceMul, Nat.reduceSub, Int.reduceToNat, Int.reduceLE, Int.reduceLT, Int.reduceEq, Int.reduceAdd, ↓reduceIte, decide_true, decide_false, and_self]
  refine call_introX (makeNoZero_x 24 (by decide)) (fun h => by cases h) ?_
  have hb1 : setAll (List.replicate 24 AV.dead) 0 (List.take (min 1 24) [.int .u8 32]) = blanks 1 := rfl
  have hl0 : (List.replicate 24 AV.dead).length = 24 := List.length_replicate
  generalize List.replicate 24 AV.dead = R0 at *
  simp (maxSteps := 200000) only [hb1, hl0, push_cast, List.getD_cons_zero, List.getD_cons_succ, List.take_succ_cons, List.take_zero, List.drop_succ_cons, Nat.reduceLT, Nat.reduceLeDiff, Nat.reduceEqDiff, Nat.reduceAdd, Nat.reduceMul, Nat.reduceSub, Int.reduceToNat, Int.reduceLE, Int.reduceLT, Int.reduceEq, Int.reduceAdd, ↓reduceIte, decide_true, decide_false, and_self]
  refine run_keep (l' := [(7, .int .i64 24), (8, .int .i64 24), (9, .own 54 33 0 24), (10, .int .i64 1)]) (t' := [(54, ⟨33, 1, blanks 1⟩)]) (nx' := _) ⟨.refl _, .refl _, .refl _, .refl _, trivial⟩ ⟨⟨_, rfl, rfl, rfl, SubL.refl _⟩, trivial⟩ (Nat.le_refl _) ?_
  refine run_loop (fun n s => ∃ (k nx : Nat), 1 ≤ k ∧ k ≤ 24 ∧ n = 24 - k ∧ s = mkS [(7, .int .i64 24), (8, .int .i64 24), (9, .own 54 33 0 24), (10, .int .i64 k)] [(54, ⟨33, 1, blanks k⟩)] nx) _ ⟨1, _, by omega, by omega, rfl, rfl⟩ ?_
  rintro n s ⟨k, nx, hk1, hk, rfl, rfl⟩
  have hl := blanks_len k hk
  by_cases h : k < 24
  · have h' : (k : Int) < 24 := by omega
    have h'' : (k : Int) ≤ 24 := by omega
    have m1 : (if (24 : Int) < (k : Int) then (24 : Int) else (k : Int)) = (k : Int) := if_neg (by omega)
    obtain ⟨m, hm⟩ : ∃ m, min k (24 - k) = m := ⟨_, rfl⟩
    have hc : setAll (blanks k) k (List.take m (List.take k (blanks k))) = blanks (k + m) := by
      rw [← blanks_copy k m (by omega)]
      congr 1
      unfold blanks
      rw [List.take_left' (by simp), List.take_replicate, Nat.min_eq_left (by omega)]
    obtain ⟨k2, hk2⟩ : ∃ k2, k2 = k + m := ⟨_, rfl⟩
    have wm : IntKind.i64.wrap ((k : Int) + (m : Int)) = (k2 : Int) := by rw [wrap_i64 (by omega)]; omega
    refine ex_run 60 ?_
    simp (maxSteps := 200000) only [h, h', h'', hl, m1, hm, hc, wm, push_cast, List.getD_cons_zero, List.getD_cons_succ, List.take_succ_cons, List.take_zero, List.drop_succ_cons, Nat.reduceLT, Nat.reduceLeDiff, Nat.reduceEqDiff, Nat.reduceAdd, Nat.reduceMul, Nat.reduceSub, Int.reduceToNat, Int.reduceLE, Int.reduceLT, Int.reduceEq, Int.reduceAdd, ↓reduceIte, decide_true, decide_false, and_self]
    refine ⟨by kernel_rfl, by first | omega | (rw [List.length_take, hl]; omega), by first | omega | (rw [List.length_take, hl]; omega), okTr_of (by kernel_rfl), ?_⟩
    rw [← hk2]
    refine run_back_le (le_mk (l' := [(7, .int .i64 24), (8, .int .i64 24), (9, .own 54 33 0 24), (10, .int .i64 k2)]) (t' := [(54, ⟨33, 1, blanks k2⟩)]) (nx' := _) ⟨.refl _, .refl _, .refl _, .refl _, trivial⟩ ⟨⟨_, rfl, rfl, rfl, SubL.refl _⟩, trivial⟩ (Nat.le_refl _)) ?_
    exact ⟨24 - k2, by omega, k2, _, by omega, by omega, rfl, rfl⟩
  · have hke : k = 24 := by omega
    subst hke
    have e : blanks 24 = u8s (List.replicate 24 32) := rfl
    refine ex_run 60 ?_
    simp (maxSteps := 200000) only [e, push_cast, List.getD_cons_zero, List.getD_cons_succ, List.take_succ_cons, List.take_zero, List.drop_succ_cons, Nat.reduceLT, Nat.reduceLeDiff, Nat.reduceEqDiff, Nat.reduceAdd, Nat.reduceMul, Nat.reduceSub, Int.reduceToNat, Int.reduceLE, Int.reduceLT, Int.reduceEq, Int.reduceAdd, ↓reduceIte, decide_true, decide_false, and_self]
    exact ⟨_, [.own 0 0 0 24], rfl, by simp [outA, outV, outC, mkS_env, mkS_tk, lkF, lkG, AV.closed], .refl _, ⟨_, rfl, u8s_closed _, rfl⟩⟩
end Go.Proofs.YteapibifebnboaaDoor
