/- The law DirParses: at every argument it returns true. -/
import Derived.Test.YtbkmbiccdhnibaaDirI
import Derived.Test.YtbkmbiccdhnibaaDirS
import Derived.Test.YtbkmbiccdhnibaaDirQ
import Derived.Test.YtbkmbiccdhnibaaE17
set_option linter.unusedVariables false
set_option linter.unusedSimpArgs false
namespace Go.Proofs.Ytbkmbiccdhnibaa
open Go Go.Eng
theorem noSlL_app : ∀ {a b : List AV}, noSlL a = true → noSlL b = true → noSlL (a ++ b) = true
  | [], b, _, h => h
  | x :: a, b, h, k => by
    rw [noSlL, Bool.and_eq_true] at h
    rw [List.cons_append, noSlL, Bool.and_eq_true]; exact ⟨h.1, noSlL_app h.2 k⟩
theorem closedL_app : ∀ {a b : List AV}, closedL a = true → closedL b = true → closedL (a ++ b) = true
  | [], b, _, h => h
  | x :: a, b, h, k => by
    rw [closedL, Bool.and_eq_true] at h
    rw [List.cons_append, closedL, Bool.and_eq_true]; exact ⟨h.1, closedL_app h.2 k⟩
theorem cellsTo_noSl (l : List Int) : ∀ i, noSlL (cellsTo l i) = true
  | 0 => rfl
  | i + 1 => noSlL_app (cellsTo_noSl l i) rfl
theorem cellsTo_drop (l : List Int) (i : Nat) : ∀ n, i < n → (cellsTo l n).drop (i * 3) = entCells (blk l i) ++ (cellsTo l n).drop (i * 3 + 3)
  | 0, h => by omega
  | n + 1, h => by
    rw [cellsTo, List.drop_append, List.drop_append, cellsTo_length]
    by_cases e : i = n
    · subst e
      rw [List.drop_of_length_le (by rw [cellsTo_length]; omega), show (cellsTo l i).drop (i * 3 + 3) = [] from List.drop_of_length_le (by rw [cellsTo_length]; omega)]
      rw [show i * 3 - i * 3 = 0 by omega, show i * 3 + 3 - i * 3 = 3 by omega]
      rfl
    · rw [cellsTo_drop l i n (by omega), List.append_assoc, show i * 3 - n * 3 = 0 by omega, show i * 3 + 3 - n * 3 = 0 by omega]
theorem cellsTo_row (l : List Int) (i n : Nat) (h : i < n) : ((cellsTo l n).drop (i * 3)).take 3 = entCells (blk l i) := by
  rw [cellsTo_drop l i n h]; rfl
/-- Either all blocks are good, or there is a first one that is not. -/
theorem scan (l : List Int) : (∃ j, 12 * j < l.length ∧ good l j = false ∧ ∀ i, i < j → good l i = true) ∨ ∃ n, l.length = 12 * n ∧ ∀ i, i < n → good l i = true := by
  have key : ∀ m, (∃ j, j < m ∧ 12 * j < l.length ∧ good l j = false ∧ ∀ i, i < j → good l i = true) ∨ ∀ i, i < m → 12 * i < l.length → good l i = true := by
    intro m
    induction m with
    | zero => exact .inr fun i hi => by omega
    | succ m ih =>
      rcases ih with ⟨j, h1, h2⟩ | h
      · exact .inl ⟨j, by omega, h2⟩
      · by_cases h12 : 12 * m < l.length
        · cases hg : good l m with
          | false => exact .inl ⟨m, by omega, h12, hg, fun i hi => h i hi (by omega)⟩
          | true =>
            refine .inr fun i hi hl => ?_
            by_cases e : i = m
            · subst e; exact hg
            · exact h i (by omega) hl
        · refine .inr fun i hi hl => ?_
          exact h i (by omega) hl
  rcases key (l.length + 1) with ⟨j, _, h⟩ | h
  · exact .inl ⟨j, h⟩
  · refine .inr ⟨l.length / 12, ?_, fun i hi => h i (by omega) (by omega)⟩
    by_cases e : l.length = 12 * (l.length / 12)
    · exact e
    · exfalso
      have hg := h (l.length / 12) (by omega) (by omega)
      simp only [good, Bool.and_eq_true, decide_eq_true_eq] at hg
      omega
def jS (b : List Int) (n i nx : Nat) : AS := mkS [(0, .sl b.length (u8s b)), (2, .bool false), (3, .own 16 7 0 n), (5, .own 21 15 0 n), (7, .int .i64 i)] [(16, ⟨7, 3, cellsTo b n⟩), (21, ⟨15, 3, cellsTo b n⟩)] nx
set_option maxRecDepth 100000 in
set_option maxHeartbeats 4000000 in
theorem DirParses_c (b : List Int) (hb : ∀ c ∈ b, 0 ≤ c ∧ c < 256) : ACall Try.prog 3 [.sl b.length (u8s b)] (.bool true) none := by
  refine acall_intro none Try.func3 rfl (by kernel_rfl) (by simp [Try.f3]) ?_
  by_cases h : b.length ≤ 3000
  · have h' : ¬ (3000 : Int) < (b.length : Int) := by omega
    refine ex_run 30 ?_
    simp (maxSteps := 200000) only [Try.f3, h', List.take_length, push_cast, List.getD_cons_zero, List.getD_cons_succ, List.take_succ_cons, List.take_zero, List.drop_succ_cons, Nat.reduceLT, Nat.reduceLeDiff, Nat.reduceEqDiff, Nat.reduceAdd, Nat.reduceMul, Nat.reduceSub, Int.reduceToNat, Int.reduceLE, Int.reduceLT, Int.reduceEq, Int.reduceAdd, ↓reduceIte, decide_true, decide_false, and_self]
    refine ⟨⟨by omega, by omega⟩, ?_⟩
    rcases scan b with ⟨j, j1, j2, j3⟩ | ⟨n, n1, n2⟩
    · have hP : ACall Try.prog 17 [.sl b.length (u8s b)] (.tup [.nilS, .agg [.int .i64 11, .int .i64 (12 * j : Nat)]]) none := Parse_run b (by omega) hb _ _ _
        (fun k k1 k2 k3 => by
          have : k = j := by
            rcases Nat.lt_trichotomy k j with q | q | q
            · rw [j3 k q] at k2; cases k2
            · exact q
            · rw [k3 j q] at j2; cases j2
          subst this; exact ⟨rfl, rfl, rfl⟩)
        (fun n n1 n2 => by
          rw [n2 j (by omega)] at j2; cases j2)
      have hR : ACall Try.prog 18 [.sl b.length (u8s b)] (.tup [.nilS, .agg [.int .i64 11, .int .i64 (12 * j : Nat)]]) none := RDir_run b (by omega) hb _ _ _
        (fun k k1 k2 k3 => by
          have : k = j := by
            rcases Nat.lt_trichotomy k j with q | q | q
            · rw [j3 k q] at k2; cases k2
            · exact q
            · rw [k3 j q] at j2; cases j2
          subst this; exact ⟨rfl, rfl, rfl⟩)
        (fun n n1 n2 => by
          rw [n2 j (by omega)] at j2; cases j2)
      refine call_intro hP (fun _ => ⟨rfl, fun T0 h => by cases h⟩) ?_
      generalize ((12 * j : Nat) : Int) = e at hP hR
      simp (maxSteps := 200000) only [List.take_length, push_cast, List.getD_cons_zero, List.getD_cons_succ, List.take_succ_cons, List.take_zero, List.drop_succ_cons, Nat.reduceLT, Nat.reduceLeDiff, Nat.reduceEqDiff, Nat.reduceAdd, Nat.reduceMul, Nat.reduceSub, Int.reduceToNat, Int.reduceLE, Int.reduceLT, Int.reduceEq, Int.reduceAdd, ↓reduceIte, decide_true, decide_false, and_self]
      refine call_intro hR (fun h => by cases h) ?_
      simp (maxSteps := 200000) only [List.take_length, push_cast, List.getD_cons_zero, List.getD_cons_succ, List.take_succ_cons, List.take_zero, List.drop_succ_cons, Nat.reduceLT, Nat.reduceLeDiff, Nat.reduceEqDiff, Nat.reduceAdd, Nat.reduceMul, Nat.reduceSub, Int.reduceToNat, Int.reduceLE, Int.reduceLT, Int.reduceEq, Int.reduceAdd, ↓reduceIte, decide_true, decide_false, and_self]
      refine call_intro answers_c (fun h => by cases h) ?_
      simp (maxSteps := 200000) only [List.take_length, push_cast, List.getD_cons_zero, List.getD_cons_succ, List.take_succ_cons, List.take_zero, List.drop_succ_cons, Nat.reduceLT, Nat.reduceLeDiff, Nat.reduceEqDiff, Nat.reduceAdd, Nat.reduceMul, Nat.reduceSub, Int.reduceToNat, Int.reduceLE, Int.reduceLT, Int.reduceEq, Int.reduceAdd, ↓reduceIte, decide_true, decide_false, and_self]
      refine run_keep (l' := [(2, .bool false), (3, .nilS), (7, .int .i64 0)]) (t' := []) (nx' := _) ⟨.refl _, .refl _, .refl _, trivial⟩ trivial (Nat.le_refl _) ?_
      refine run_loop (fun n s => n = 0 ∧ ∃ nx, s = mkS [(2, .bool false), (3, .nilS), (7, .int .i64 0)] [] nx) 0 ⟨rfl, _, rfl⟩ ?_
      rintro n s ⟨rfl, nx, rfl⟩
      refine ex_run 30 ?_
      simp (maxSteps := 200000) only [push_cast, List.getD_cons_zero, List.getD_cons_succ, List.take_succ_cons, List.take_zero, List.drop_succ_cons, Nat.reduceLT, Nat.reduceLeDiff, Nat.reduceEqDiff, Nat.reduceAdd, Nat.reduceMul, Nat.reduceSub, Int.reduceToNat, Int.reduceLE, Int.reduceLT, Int.reduceEq, Int.reduceAdd, ↓reduceIte, decide_true, decide_false, and_self]
      exact ⟨_, _, rfl, rfl, .refl _, rfl⟩
    · have hP : ACall Try.prog 17 [.sl b.length (u8s b)] (.tup [.own 0 0 0 n, .agg [.int .i64 0, .int .i64 0]]) (some ⟨0, 3, cellsTo b n⟩) := Parse_run b (by omega) hb (some 100) _ _
        (fun k k1 k2 k3 => by
          rw [n2 k (by omega)] at k2; cases k2)
        (fun m m1 m2 => by
          have : m = n := by omega
          subst this; exact ⟨rfl, rfl, rfl⟩)
      have hR : ACall Try.prog 18 [.sl b.length (u8s b)] (.tup [.own 0 0 0 n, .agg [.int .i64 0, .int .i64 0]]) (some ⟨0, 3, cellsTo b n⟩) := RDir_run b (by omega) hb (some 100) _ _
        (fun k k1 k2 k3 => by
          rw [n2 k (by omega)] at k2; cases k2)
        (fun m m1 m2 => by
          have : m = n := by omega
          subst this; exact ⟨rfl, rfl, rfl⟩)
      refine call_intro hP (fun _ => ⟨rfl, fun T0 h => by cases h; exact cellsTo_noSl b n⟩) ?_
      simp (maxSteps := 200000) only [List.take_length, push_cast, List.getD_cons_zero, List.getD_cons_succ, List.take_succ_cons, List.take_zero, List.drop_succ_cons, Nat.reduceLT, Nat.reduceLeDiff, Nat.reduceEqDiff, Nat.reduceAdd, Nat.reduceMul, Nat.reduceSub, Int.reduceToNat, Int.reduceLE, Int.reduceLT, Int.reduceEq, Int.reduceAdd, ↓reduceIte, decide_true, decide_false, and_self]
      refine call_intro hR (fun h => by cases h) ?_
      simp (maxSteps := 200000) only [List.take_length, push_cast, List.getD_cons_zero, List.getD_cons_succ, List.take_succ_cons, List.take_zero, List.drop_succ_cons, Nat.reduceLT, Nat.reduceLeDiff, Nat.reduceEqDiff, Nat.reduceAdd, Nat.reduceMul, Nat.reduceSub, Int.reduceToNat, Int.reduceLE, Int.reduceLT, Int.reduceEq, Int.reduceAdd, ↓reduceIte, decide_true, decide_false, and_self]
      refine call_intro answers_c (fun h => by cases h) ?_
      simp (maxSteps := 200000) only [List.take_length, push_cast, List.getD_cons_zero, List.getD_cons_succ, List.take_succ_cons, List.take_zero, List.drop_succ_cons, Nat.reduceLT, Nat.reduceLeDiff, Nat.reduceEqDiff, Nat.reduceAdd, Nat.reduceMul, Nat.reduceSub, Int.reduceToNat, Int.reduceLE, Int.reduceLT, Int.reduceEq, Int.reduceAdd, ↓reduceIte, decide_true, decide_false, and_self]
      refine run_keep (l' := [(0, .sl b.length (u8s b)), (2, .bool false), (3, .own 16 7 0 n), (5, .own 21 15 0 n), (7, .int .i64 0)]) (t' := [(16, ⟨7, 3, cellsTo b n⟩), (21, ⟨15, 3, cellsTo b n⟩)]) (nx' := _) ⟨.refl _, .refl _, .refl _, .refl _, .refl _, trivial⟩ ⟨⟨_, rfl, rfl, rfl, SubL.refl _⟩, ⟨_, rfl, rfl, rfl, SubL.refl _⟩, trivial⟩ (Nat.le_refl _) ?_
      refine run_loop (fun m s => ∃ (i nx : Nat), i ≤ n ∧ m = n - i ∧ s = jS b n i nx) _ ⟨0, _, Nat.zero_le _, rfl, rfl⟩ ?_
      rintro m s ⟨i, nx, hi, rfl, rfl⟩
      unfold jS
      have hlen := cellsTo_length b n
      by_cases h1 : i < n
      · have hrow := cellsTo_row b i n h1
        have hle : i * 3 + 3 ≤ n * 3 := by omega
        have hw : IntKind.i64.wrap ((i : Int) + 1) = ((i + 1 : Nat) : Int) := by rw [wrap_i64 (by omega)]; omega
        refine ex_run 30 ?_
        simp (maxSteps := 200000) only [h1, hrow, hlen, hle, hw, entCells, beq_self_eq_true, push_cast, List.getD_cons_zero, List.getD_cons_succ, List.take_succ_cons, List.take_zero, List.drop_succ_cons, Nat.reduceLT, Nat.reduceLeDiff, Nat.reduceEqDiff, Nat.reduceAdd, Nat.reduceMul, Nat.reduceSub, Int.reduceToNat, Int.reduceLE, Int.reduceLT, Int.reduceEq, Int.reduceAdd, ↓reduceIte, decide_true, decide_false, and_self]
        refine ⟨by kernel_rfl, by kernel_rfl, ?_⟩
        refine run_back_le (le_mk (l' := [(0, .sl b.length (u8s b)), (2, .bool false), (3, .own 16 7 0 n), (5, .own 21 15 0 n), (7, .int .i64 ((i + 1 : Nat) : Int))]) (t' := [(16, ⟨7, 3, cellsTo b n⟩), (21, ⟨15, 3, cellsTo b n⟩)]) (nx' := _)
          ⟨.refl _, .refl _, .refl _, .refl _, .of_eq (congrArg (AV.int .i64) (by omega)), trivial⟩ ⟨⟨_, rfl, rfl, rfl, SubL.refl _⟩, ⟨_, rfl, rfl, rfl, SubL.refl _⟩, trivial⟩ (Nat.le_refl _)) ?_
        exact ⟨n - (i + 1), by omega, i + 1, _, by omega, rfl, rfl⟩
      · refine ex_run 30 ?_
        simp (maxSteps := 200000) only [h1, push_cast, List.getD_cons_zero, List.getD_cons_succ, List.take_succ_cons, List.take_zero, List.drop_succ_cons, Nat.reduceLT, Nat.reduceLeDiff, Nat.reduceEqDiff, Nat.reduceAdd, Nat.reduceMul, Nat.reduceSub, Int.reduceToNat, Int.reduceLE, Int.reduceLT, Int.reduceEq, Int.reduceAdd, ↓reduceIte, decide_true, decide_false, and_self]
        exact ⟨_, _, rfl, rfl, .refl _, rfl⟩
  · have h' : (3000 : Int) < (b.length : Int) := by omega
    refine ex_run 30 ?_
    simp (maxSteps := 200000) only [Try.f3, h', push_cast, List.getD_cons_zero, List.getD_cons_succ, List.take_succ_cons, List.take_zero, List.drop_succ_cons, Nat.reduceLT, Nat.reduceLeDiff, Nat.reduceEqDiff, Nat.reduceAdd, Nat.reduceMul, Nat.reduceSub, Int.reduceToNat, Int.reduceLE, Int.reduceLT, Int.reduceEq, Int.reduceAdd, ↓reduceIte, decide_true, decide_false, and_self]
    refine call_intro answers_c (fun h => by cases h) ?_
    simp (maxSteps := 200000) only [push_cast, List.getD_cons_zero, List.getD_cons_succ, List.take_succ_cons, List.take_zero, List.drop_succ_cons, Nat.reduceLT, Nat.reduceLeDiff, Nat.reduceEqDiff, Nat.reduceAdd, Nat.reduceMul, Nat.reduceSub, Int.reduceToNat, Int.reduceLE, Int.reduceLT, Int.reduceEq, Int.reduceAdd, ↓reduceIte, decide_true, decide_false, and_self]
    exact ⟨_, _, rfl, rfl, .refl _, rfl⟩
theorem opensBytes {H : Type} : Opens Try.prog H 22 fun xs => ∃ l : List Int, (∀ c ∈ l, 0 ≤ c ∧ c < 256) ∧ l.length ≤ maxLen ∧ xs = [.sl l.length (u8s l)] :=
  opens_bytes Try.underlying22 Try.underlying5 (by kernel_rfl)
theorem DirParses_call {a : AV} (h : ∃ l : List Int, (∀ c ∈ l, 0 ≤ c ∧ c < 256) ∧ l.length ≤ maxLen ∧ [a] = [.sl l.length (u8s l)]) : ACall Try.prog 3 [a] (.bool true) none := by
  obtain ⟨l, h1, _, e⟩ := h
  cases e
  exact DirParses_c l h1
end Go.Proofs.Ytbkmbiccdhnibaa
