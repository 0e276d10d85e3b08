/- ref01.Dec, ref19.Fixed -/
import Derived.Test.YteapibifebnboaaDoorMndL
set_option linter.unusedVariables false
set_option linter.unusedSimpArgs false
namespace Go.Proofs.YteapibifebnboaaDoor
open Go Go.Eng
theorem fixedL_pad : ∀ (k : Nat) (n : Int), 0 ≤ n → n < 10 ^ k → fixedL (k + 1) n = 48 :: fixedL k n
  | 0, n, h0, h => by
    have : n = 0 := by simp at h; omega
    subst this; rfl
  | k + 1, n, h0, h => by
    have hp : (10 : Int) ^ (k + 1) = 10 ^ k * 10 := Int.pow_succ ..
    rw [fixedL, fixedL_pad k (n / 10) (by omega) (by omega)]
    rfl
theorem pow10 (k : Nat) (h : k ≤ 17) : (10 : Int) ^ (k + 1) ≤ 1000000000000000000 := by
  rcases (show k = 0 ∨ k = 1 ∨ k = 2 ∨ k = 3 ∨ k = 4 ∨ k = 5 ∨ k = 6 ∨ k = 7 ∨ k = 8 ∨ k = 9 ∨ k = 10 ∨ k = 11 ∨ k = 12 ∨ k = 13 ∨ k = 14 ∨ k = 15 ∨ k = 16 ∨ k = 17 by omega) with rfl | rfl | rfl | rfl | rfl | rfl | rfl | rfl | rfl | rfl | rfl | rfl | rfl | rfl | rfl | rfl | rfl | rfl <;> decide
set_option maxRecDepth 100000 in
set_option maxHeartbeats 4000000 in
theorem Dec_c : ∀ (k : Nat) (n : Int), k ≤ 17 → 0 ≤ n → n < 10 ^ (k + 1) → (k = 0 ∨ 10 ^ k ≤ n) →
    ACall Tryd.prog 73 [.int .i64 n] (.str (fixedL (k + 1) n)) none
  | 0, n, hk, h0, hn, _ => by
    have hn' : n < 10 := by simpa using hn
    have c0 : ¬ n < 0 := by omega
    have w1 : IntKind.u8.wrap n = n := IntWalk.u8_in _ (by omega)
    have w2 : IntKind.u8.wrap (48 + n) = 48 + n := IntWalk.u8_in _ (by omega)
    have hu : u8n [48 + n] = [48 + n] := u8n_eq fun c hc => by rw [List.mem_singleton] at hc; subst hc; omega
    have hio : ∀ v : Int, intsOf [.int .u8 v] = some [v] := fun v => rfl
    have e : fixedL 1 n = [48 + n] := by rw [fixedL, show n % 10 = n by omega]; rfl
    refine acall_intro none Tryd.func73 rfl (by kernel_rfl) (by simp [Tryd.f73]) ?_
    refine ex_run 30 ?_
    simp (maxSteps := 200000) only [Tryd.f73, c0, hn', w1, w2, hu, hio, push_cast, List.getD_cons_zero, List.getD_cons_succ, List.take_succ_cons, List.take_zero, List.drop_succ_cons, Nat.reduceLT, Nat.reduceLeDiff, Nat.reduceEqDiff, Nat.reduceAdd, Nat.reduceMul, Nat.reduceSub, Int.reduceToNat, Int.reduceLE, Int.reduceLT, Int.reduceEq, Int.reduceAdd, ↓reduceIte, decide_true, decide_false, and_self]
    rw [e]
    exact ⟨_, _, rfl, rfl, .refl _, rfl⟩
  | k + 1, n, hk, h0, hn, hge => by
    have hp : (10 : Int) ^ (k + 1 + 1) = 10 ^ (k + 1) * 10 := Int.pow_succ ..
    have hp2 : (10 : Int) ^ (k + 1) = 10 ^ k * 10 := Int.pow_succ ..
    have hge' : (10 : Int) ^ (k + 1) ≤ n := by rcases hge with h | h; · cases h
                                               · exact h
    have hpos : (1 : Int) ≤ 10 ^ k := by have := Int.pow_pos (n := 10) (m := k) (by decide); omega
    have hb := pow10 (k + 1) hk
    have hrec := Dec_c k (n / 10) (by omega) (by omega) (by omega) (by
      by_cases e : k = 0
      · exact .inl e
      · exact .inr (by omega))
    have c0 : ¬ n < 0 := by omega
    have c1 : ¬ n < 10 := by omega
    have hq : n.tdiv 10 = n / 10 := Int.tdiv_eq_ediv_of_nonneg h0
    have hr : n.tmod 10 = n % 10 := Int.tmod_eq_emod_of_nonneg h0
    have w0 : IntKind.i64.wrap (n / 10) = n / 10 := wrap_i64 (by omega)
    have w1 : IntKind.u8.wrap (n % 10) = n % 10 := IntWalk.u8_in _ (by omega)
    have w2 : IntKind.u8.wrap (48 + n % 10) = 48 + n % 10 := IntWalk.u8_in _ (by omega)
    have hu : u8n [48 + n % 10] = [48 + n % 10] := u8n_eq fun c hc => by rw [List.mem_singleton] at hc; subst hc; omega
    have hio : ∀ v : Int, intsOf [.int .u8 v] = some [v] := fun v => rfl
    have hl := fixedL_length (k + 1) (n / 10)
    refine acall_intro none Tryd.func73 rfl (by kernel_rfl) (by simp [Tryd.f73]) ?_
    refine ex_run 30 ?_
    simp (maxSteps := 200000) only [Tryd.f73, c0, c1, hq, hr, w0, w1, w2, hu, hio, push_cast, List.getD_cons_zero, List.getD_cons_succ, List.take_succ_cons, List.take_zero, List.drop_succ_cons, Nat.reduceLT, Nat.reduceLeDiff, Nat.reduceEqDiff, Nat.reduceAdd, Nat.reduceMul, Nat.reduceSub, Int.reduceToNat, Int.reduceLE, Int.reduceLT, Int.reduceEq, Int.reduceAdd, ↓reduceIte, decide_true, decide_false, and_self]
    refine ⟨by kernel_rfl, by decide, ?_⟩
    refine call_introF hrec (fun h => by cases h) ?_
    simp (maxSteps := 200000) only [c0, c1, hq, hr, w0, w1, w2, hu, hio, hl, push_cast, List.getD_cons_zero, List.getD_cons_succ, List.take_succ_cons, List.take_zero, List.drop_succ_cons, Nat.reduceLT, Nat.reduceLeDiff, Nat.reduceEqDiff, Nat.reduceAdd, Nat.reduceMul, Nat.reduceSub, Int.reduceToNat, Int.reduceLE, Int.reduceLT, Int.reduceEq, Int.reduceAdd, ↓reduceIte, decide_true, decide_false, and_self]
    refine ⟨by decide, by omega, okTr_of (by kernel_rfl), ?_⟩
    exact ⟨_, _, rfl, rfl, .refl _, rfl⟩
theorem pow_up (d : Nat) : ∀ e : Nat, (10 : Int) ^ d ≤ 10 ^ (d + e)
  | 0 => Int.le_refl _
  | e + 1 => by
    have h1 := pow_up d e
    have h2 : (10 : Int) ^ (d + (e + 1)) = 10 ^ (d + e) * 10 := Int.pow_succ ..
    have h3 : (0 : Int) < 10 ^ d := Int.pow_pos (by decide)
    omega
theorem digs : ∀ (k : Nat) (n : Int), 0 ≤ n → n < 10 ^ (k + 1) → ∃ d : Nat, d ≤ k ∧ n < 10 ^ (d + 1) ∧ (d = 0 ∨ 10 ^ d ≤ n)
  | 0, n, h0, h => ⟨0, Nat.le_refl _, h, .inl rfl⟩
  | k + 1, n, h0, h => by
    by_cases e : (10 : Int) ^ (k + 1) ≤ n
    · exact ⟨k + 1, Nat.le_refl _, h, .inr e⟩
    · obtain ⟨d, h1, h2, h3⟩ := digs k n h0 (by omega)
      exact ⟨d, by omega, h2, h3⟩
set_option maxRecDepth 100000 in
set_option maxHeartbeats 4000000 in
theorem Fixed_c (k : Nat) (n : Int) (hk : k + 1 ≤ 17) (h0 : 0 ≤ n) (hn : n < 10 ^ (k + 1)) : ACall Tryd.prog 53 [.int .i64 n, .int .i64 ((k + 1 : Nat) : Int)] (.str (fixedL (k + 1) n)) none := by
  obtain ⟨d, hd, hdn, hd2⟩ := digs k n h0 hn
  have hD := Dec_c d n (by omega) h0 hdn hd2
  have h48 : bytesOf { data := #[48] } = [48] := rfl
  have hem : bytesOf { data := #[] } = [] := rfl
  generalize hK : ((k + 1 : Nat) : Int) = K
  refine acall_intro none Tryd.func53 rfl (by kernel_rfl) (by simp [Tryd.f53]) ?_
  refine ex_run 30 ?_
  simp (maxSteps := 200000) only [Tryd.f53, hem, push_cast, List.getD_cons_zero, List.getD_cons_succ, List.take_succ_cons, List.take_zero, List.drop_succ_cons, Nat.reduceLT, Nat.reduceLeDiff, Nat.reduceEqDiff, Nat.reduceAdd, Nat.reduceMul, Nat.reduceSub, Int.reduceToNat, Int.reduceLE, Int.reduceLT, Int.reduceEq, Int.reduceAdd, ↓reduceIte, decide_true, decide_false, and_self]
  refine call_intro hD (fun h => by cases h) ?_
  simp (maxSteps := 200000) only [push_cast, List.getD_cons_zero, List.getD_cons_succ, List.take_succ_cons, List.take_zero, List.drop_succ_cons, Nat.reduceLT, Nat.reduceLeDiff, Nat.reduceEqDiff, Nat.reduceAdd, Nat.reduceMul, Nat.reduceSub, Int.reduceToNat, Int.reduceLE, Int.reduceLT, Int.reduceEq, Int.reduceAdd, ↓reduceIte, decide_true, decide_false, and_self]
  refine run_keep (l' := [(1, .int .i64 K), (5, .str (fixedL (d + 1) n))]) (t' := []) (nx' := _) ⟨.refl _, .refl _, trivial⟩ trivial (Nat.le_refl _) ?_
  refine run_loop (fun m s => ∃ (j nx : Nat), d ≤ j ∧ j ≤ k ∧ m = k - j ∧ s = mkS [(1, .int .i64 K), (5, .str (fixedL (j + 1) n))] [] nx) _ ⟨d, _, Nat.le_refl _, hd, rfl, rfl⟩ ?_
  rintro m s ⟨j, nx, hdj, hj, rfl, rfl⟩
  have hl := fixedL_length (j + 1) n
  by_cases h : j < k
  · have h' : (j : Int) + 1 < K := by omega
    have hpad : fixedL (j + 1 + 1) n = 48 :: fixedL (j + 1) n := fixedL_pad (j + 1) n h0 (Int.lt_of_lt_of_le hdn (by
      obtain ⟨e, rfl⟩ := Nat.exists_eq_add_of_le hdj
      exact pow_up (d + 1) e |> fun h => by rw [show d + e + 1 = d + 1 + e by omega]; exact h))
    generalize fixedL (j + 1) n = X at *
    refine ex_run 30 ?_
    simp (maxSteps := 200000) only [hl, h', h48, push_cast, List.getD_cons_zero, List.getD_cons_succ, List.take_succ_cons, List.take_zero, List.drop_succ_cons, Nat.reduceLT, Nat.reduceLeDiff, Nat.reduceEqDiff, Nat.reduceAdd, Nat.reduceMul, Nat.reduceSub, Int.reduceToNat, Int.reduceLE, Int.reduceLT, Int.reduceEq, Int.reduceAdd, ↓reduceIte, decide_true, decide_false, and_self]
    refine ⟨by omega, ?_⟩
    refine run_back_le (le_mk (l' := [(1, .int .i64 K), (5, .str (fixedL (j + 1 + 1) n))]) (t' := []) (nx' := _) ⟨.refl _, .of_eq (congrArg AV.str hpad.symm), trivial⟩ trivial (Nat.le_refl _)) ?_
    exact ⟨k - (j + 1), by omega, j + 1, _, by omega, by omega, rfl, rfl⟩
  · have h' : ¬ (j : Int) + 1 < K := by omega
    have hje : j = k := by omega
    subst hje
    refine ex_run 30 ?_
    simp (maxSteps := 200000) only [hl, h', push_cast, List.getD_cons_zero, List.getD_cons_succ, List.take_succ_cons, List.take_zero, List.drop_succ_cons, Nat.reduceLT, Nat.reduceLeDiff, Nat.reduceEqDiff, Nat.reduceAdd, Nat.reduceMul, Nat.reduceSub, Int.reduceToNat, Int.reduceLE, Int.reduceLT, Int.reduceEq, Int.reduceAdd, ↓reduceIte, decide_true, decide_false, and_self]
    exact ⟨_, _, rfl, rfl, .refl _, rfl⟩
end Go.Proofs.YteapibifebnboaaDoor
