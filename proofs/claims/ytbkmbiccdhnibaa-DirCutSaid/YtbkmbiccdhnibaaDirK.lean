/- dir: what is printed, as plain lists; dir.fixed. -/
import Derived.Test.YtbkmbiccdhnibaaDirJ
set_option linter.unusedVariables false
set_option linter.unusedSimpArgs false
namespace Go.Proofs.Ytbkmbiccdhnibaa
open Go Go.Eng
/-- A number's last digits. -/
def fixedL : Nat → Int → List Int
  | 0, _ => []
  | k + 1, n => fixedL k (n / 10) ++ [48 + n % 10]
theorem fixedL_length : ∀ k n, (fixedL k n).length = k
  | 0, _ => rfl
  | k + 1, n => by rw [fixedL, List.length_append, fixedL_length k]; rfl
theorem fixedL_digits : ∀ k n, 0 ≤ n → (fixedL k n).all isD = true
  | 0, _, _ => rfl
  | k + 1, n, h => by
    rw [fixedL, List.all_append, fixedL_digits k (n / 10) (by omega)]
    simp [isD]; omega
theorem fixedL_val : ∀ k n, 0 ≤ n → n < 10 ^ k → valOf (fixedL k n) = n
  | 0, n, h, h2 => by simp at h2; simp [fixedL, valOf]; omega
  | k + 1, n, h, h2 => by
    rw [Int.pow_succ] at h2
    rw [fixedL, valOf, List.foldl_append, ← valOf, fixedL_val k (n / 10) (by omega) (by omega)]
    simp; omega
theorem numOf_fixed (k : Nat) (n : Int) (h : 0 ≤ n) (h2 : n < 10 ^ k) : numOf (fixedL k n) = (n, true) := by
  unfold numOf
  rw [if_pos (fixedL_digits k n h), fixedL_val k n h h2]
theorem fixedL_bytes : ∀ k n, 0 ≤ n → ∀ c ∈ fixedL k n, 0 ≤ c ∧ c < 256 := by
  intro k n h c hc
  have := List.all_eq_true.1 (fixedL_digits k n h) c hc
  simp only [isD, decide_eq_true_eq] at this
  omega
theorem rep_set {α : Type} (k : Nat) (z x : α) (t : List α) : (List.replicate (k + 1) z ++ t).set k x = List.replicate k z ++ (x :: t) := by
  rw [List.replicate_succ', List.append_assoc]
  have := set_app (List.replicate k z) z t x
  rw [List.length_replicate] at this
  exact this
def fS (n : Int) (sz : Nat) (m : Int) (j nx : Nat) (tail : List Int) : AS := mkS [(0, .int .i64 m), (1, .int .i64 sz), (5, .own 8 2 0 sz), (6, .int .i64 ((j : Int) - 1))] [(8, ⟨2, 1, List.replicate j (.int .u8 0) ++ u8s tail⟩)] nx
set_option maxRecDepth 100000 in
set_option maxHeartbeats 4000000 in
theorem fixed_c (n : Int) (sz : Nat) (hn : 0 ≤ n ∧ n ≤ 9223372036854775807) (hs : sz ≤ 1000) : ACall Try.prog 45 [.int .i64 n, .int .i64 sz] (.str (fixedL sz n)) none := by
  have hz : zrep [.int .u8 0] sz = List.replicate sz (.int .u8 0) := by
    unfold zrep
    apply List.ext_getElem
    · simp
    · intro i h1 h2
      simp [Nat.mod_one]
  refine acall_intro none Try.func45 rfl (by kernel_rfl) (by simp [Try.f45]) ?_
  refine ex_run 30 ?_
  simp (maxSteps := 200000) only [Try.f45, hz, push_cast, List.getD_cons_zero, List.getD_cons_succ, List.take_succ_cons, List.take_zero, List.drop_succ_cons, Nat.reduceLT, Nat.reduceLeDiff, Nat.reduceEqDiff, Nat.reduceAdd, Nat.reduceMul, Nat.reduceSub, Int.reduceToNat, Int.reduceLE, Int.reduceLT, Int.reduceEq, Int.reduceAdd, ↓reduceIte, decide_true, decide_false, and_self]
  have w1 : IntKind.i64.wrap ((sz : Int) - 1) = (sz : Int) - 1 := wrap_i64 (by omega)
  rw [w1]
  refine ⟨⟨by omega, by omega⟩, ?_⟩
  refine run_keep (l' := [(0, .int .i64 n), (1, .int .i64 sz), (5, .own 8 2 0 sz), (6, .int .i64 ((sz : Int) - 1))]) (t' := [(8, ⟨2, 1, List.replicate sz (.int .u8 0)⟩)]) (nx' := _) ⟨.refl _, .refl _, .refl _, .refl _, trivial⟩ ⟨⟨_, rfl, rfl, rfl, SubL.refl _⟩, trivial⟩ (Nat.le_refl _) ?_
  refine run_loop (fun v s => ∃ (j nx : Nat) (m : Int) (tail : List Int), j ≤ sz ∧ v = j ∧ 0 ≤ m ∧ m ≤ 9223372036854775807 ∧ fixedL j m ++ tail = fixedL sz n ∧ s = fS n sz m j nx tail) _ ⟨sz, _, n, [], Nat.le_refl _, rfl, hn.1, hn.2, List.append_nil _, by simp [fS, u8s]; rfl⟩ ?_
  rintro j s ⟨_, nx, m, tail, hj, rfl, hm0, hm1, hfix, rfl⟩
  have htl : tail.length = sz - j := by
    have := congrArg List.length hfix
    rw [List.length_append, fixedL_length, fixedL_length] at this; omega
  unfold fS
  cases j with
  | zero =>
    rw [show (((0 : Nat) : Int) - 1) = -1 from rfl]
    have hb : u8n tail = tail := u8n_eq fun c hc => fixedL_bytes sz n hn.1 c (by rw [← hfix]; exact List.mem_append_right _ hc)
    have htk : List.take sz tail = tail := List.take_of_length_le (by omega)
    refine ex_run 30 ?_
    simp (maxSteps := 200000) only [List.replicate_zero, htk, hb, push_cast, List.getD_cons_zero, List.getD_cons_succ, List.take_succ_cons, List.take_zero, List.drop_succ_cons, Nat.reduceLT, Nat.reduceLeDiff, Nat.reduceEqDiff, Nat.reduceAdd, Nat.reduceMul, Nat.reduceSub, Int.reduceToNat, Int.reduceLE, Int.reduceLT, Int.reduceEq, Int.reduceAdd, ↓reduceIte, decide_true, decide_false, and_self]
    refine ⟨by omega, ?_⟩
    have e : tail = fixedL sz n := by rw [← hfix]; rfl
    exact ⟨_, _, rfl, rfl, .of_eq (by rw [e]; rfl), rfl⟩
  | succ j =>
    have e0 : (((j + 1 : Nat) : Int) - 1) = (j : Int) := by omega
    rw [e0]
    have h1 : (0 : Int) ≤ (j : Int) := by omega
    have h2 : (j : Int) < (sz : Int) := by omega
    have e1 : m.tmod 10 = m % 10 := Int.tmod_eq_emod_of_nonneg hm0
    have e2 : m.tdiv 10 = m / 10 := Int.tdiv_eq_ediv_of_nonneg hm0
    have w2 : IntKind.i64.wrap (48 + m % 10) = 48 + m % 10 := wrap_i64 (by omega)
    have w3 : IntKind.u8.wrap (48 + m % 10) = 48 + m % 10 := IntWalk.u8_in _ (by omega)
    have w4 : IntKind.i64.wrap (m / 10) = m / 10 := wrap_i64 (by omega)
    have w5 : IntKind.i64.wrap ((j : Int) - 1) = (j : Int) - 1 := wrap_i64 (by omega)
    have hlen : (List.replicate (j + 1) (AV.int .u8 0) ++ u8s tail).length = sz := by rw [List.length_append, List.length_replicate, u8s_length]; omega
    have hset : (List.replicate (j + 1) (AV.int .u8 0) ++ u8s tail).set j (.int .u8 (48 + m % 10)) = List.replicate j (.int .u8 0) ++ u8s ((48 + m % 10) :: tail) := rep_set j _ _ _
    have hle : j + 1 ≤ sz := by omega
    refine ex_run 30 ?_
    simp (maxSteps := 200000) only [h1, h2, e1, e2, w2, w3, w4, w5, hlen, hset, hle, push_cast, List.getD_cons_zero, List.getD_cons_succ, List.take_succ_cons, List.take_zero, List.drop_succ_cons, Nat.reduceLT, Nat.reduceLeDiff, Nat.reduceEqDiff, Nat.reduceAdd, Nat.reduceMul, Nat.reduceSub, Int.reduceToNat, Int.reduceLE, Int.reduceLT, Int.reduceEq, Int.reduceAdd, ↓reduceIte, decide_true, decide_false, and_self]
    refine ⟨by decide, by decide, ?_⟩
    refine run_back_le (le_mk (l' := [(0, .int .i64 (m / 10)), (1, .int .i64 sz), (5, .own 8 2 0 sz), (6, .int .i64 ((j : Int) - 1))]) (t' := [(8, ⟨2, 1, List.replicate j (.int .u8 0) ++ u8s ((48 + m % 10) :: tail)⟩)]) (nx' := _)
      ⟨.refl _, .refl _, .refl _, .refl _, trivial⟩ ⟨⟨_, rfl, rfl, rfl, SubL.refl _⟩, trivial⟩ (Nat.le_refl _)) ?_
    exact ⟨j, by omega, j, _, m / 10, (48 + m % 10) :: tail, by omega, rfl, by omega, by omega, by rw [← hfix, fixedL, List.append_assoc]; rfl, rfl⟩
end Go.Proofs.Ytbkmbiccdhnibaa
