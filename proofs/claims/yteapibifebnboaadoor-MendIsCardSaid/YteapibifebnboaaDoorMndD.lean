/- ref19.Lead -/
import Derived.Test.YteapibifebnboaaDoorMndC
set_option linter.unusedVariables false
set_option linter.unusedSimpArgs false
namespace Go.Proofs.YteapibifebnboaaDoor
open Go Go.Eng
def mustL : List Int := [46, 46, 46, 46, 46, 46, 46, 46, 46, 46, 46, 46, 50, 50, 46, 46, 46, 46, 46, 46, 46, 46, 52, 53, 48, 48]
theorem leadC_cls (b : List Int) (i : Nat) (h : i < 24) :
    ((i : Int) < 5 ∧ True ∧ True ∧ ¬ (i : Int) = 9 ∧ ¬ (i : Int) = 10 ∧ ¬ (i : Int) = 11 ∧ ¬ (20 : Int) ≤ (i : Int) ∧ leadC b i = 48) ∨
    (¬ (i : Int) < 5 ∧ ¬ (12 : Int) ≤ (i : Int) ∧ True ∧ ¬ (i : Int) = 9 ∧ ¬ (i : Int) = 10 ∧ ¬ (i : Int) = 11 ∧ ¬ (20 : Int) ≤ (i : Int) ∧ leadC b i = if padC b i < 32 then 32 else if 126 < padC b i then 32 else padC b i) ∨
    (¬ (i : Int) < 5 ∧ ¬ (12 : Int) ≤ (i : Int) ∧ True ∧ (i : Int) = 9 ∧ ¬ (i : Int) = 10 ∧ ¬ (i : Int) = 11 ∧ ¬ (20 : Int) ≤ (i : Int) ∧ leadC b i = if padC b i = 97 then 97 else 32) ∨
    (¬ (i : Int) < 5 ∧ ¬ (12 : Int) ≤ (i : Int) ∧ True ∧ ¬ (i : Int) = 9 ∧ (i : Int) = 10 ∧ ¬ (i : Int) = 11 ∧ ¬ (20 : Int) ≤ (i : Int) ∧ leadC b i = 50) ∨
    (¬ (i : Int) < 5 ∧ ¬ (12 : Int) ≤ (i : Int) ∧ True ∧ ¬ (i : Int) = 9 ∧ ¬ (i : Int) = 10 ∧ (i : Int) = 11 ∧ ¬ (20 : Int) ≤ (i : Int) ∧ leadC b i = 50) ∨
    (¬ (i : Int) < 5 ∧ (12 : Int) ≤ (i : Int) ∧ (i : Int) < 17 ∧ ¬ (i : Int) = 9 ∧ ¬ (i : Int) = 10 ∧ ¬ (i : Int) = 11 ∧ ¬ (20 : Int) ≤ (i : Int) ∧ leadC b i = 48) ∨
    (¬ (i : Int) < 5 ∧ (12 : Int) ≤ (i : Int) ∧ ¬ (i : Int) < 17 ∧ ¬ (i : Int) = 9 ∧ ¬ (i : Int) = 10 ∧ ¬ (i : Int) = 11 ∧ ¬ (20 : Int) ≤ (i : Int) ∧ leadC b i = if padC b i < 32 then 32 else if 126 < padC b i then 32 else padC b i) ∨
    (¬ (i : Int) < 5 ∧ (12 : Int) ≤ (i : Int) ∧ ¬ (i : Int) < 17 ∧ ¬ (i : Int) = 9 ∧ ¬ (i : Int) = 10 ∧ ¬ (i : Int) = 11 ∧ (20 : Int) ≤ (i : Int) ∧ leadC b i = mustL.getD (i + 2) 0) := by
  have hlc : leadC b i = if numAt i = true then 48 else if mustB i ≠ 0 then mustB i else if ((i = 9 ∧ padC b i ≠ 97) ∨ indB (padC b i) = false) then 32 else padC b i := rfl
  generalize leadC b i = v at *
  generalize padC b i = c at *
  rcases (show i = 0 ∨ i = 1 ∨ i = 2 ∨ i = 3 ∨ i = 4 ∨ i = 5 ∨ i = 6 ∨ i = 7 ∨ i = 8 ∨ i = 9 ∨ i = 10 ∨ i = 11 ∨ i = 12 ∨ i = 13 ∨ i = 14 ∨ i = 15 ∨ i = 16 ∨ i = 17 ∨ i = 18 ∨ i = 19 ∨ i = 20 ∨ i = 21 ∨ i = 22 ∨ i = 23 by omega) with rfl | rfl | rfl | rfl | rfl | rfl | rfl | rfl | rfl | rfl | rfl | rfl | rfl | rfl | rfl | rfl | rfl | rfl | rfl | rfl | rfl | rfl | rfl | rfl
  all_goals
    simp [numAt, mustB, mustL, indB] at hlc ⊢
    try (repeat' split at hlc)
    all_goals try (repeat' split)
    all_goals omega
set_option maxRecDepth 100000 in
set_option maxHeartbeats 16000000 in
theorem rLead_c (b : List Int) (hl : b.length ≤ 9223372036854775807) (hb : inB b) : ACall Tryd.prog 13 [.sl b.length (u8s b)] (.str (leadM b)) none := by
  have hmu : bytesOf { data := #[46, 46, 46, 46, 46, 46, 46, 46, 46, 46, 46, 46, 50, 50, 46, 46, 46, 46, 46, 46, 46, 46, 52, 53, 48, 48] } = mustL := rfl
  have hem : bytesOf { data := #[] } = [] := rfl
  have hml : mustL.length = 26 := rfl
  refine acall_intro none Tryd.func13 rfl (by kernel_rfl) (by simp [Tryd.f13]) ?_
  refine ex_run 60 ?_
  simp (maxSteps := 200000) only [Tryd.f13, hmu, hem, push_cast, List.getD_cons_zero, List.getD_cons_succ, List.take_succ_cons, List.take_zero, List.drop_succ_cons, Nat.reduceLT, Nat.reduceLeDiff, Nat.reduceEqDiff, Nat.reduceAdd, Nat.reduceMul, Nat.reduceSub, Int.reduceToNat, Int.reduceLE, Int.reduceLT, Int.reduceEq, Int.reduceAdd, ↓reduceIte, decide_true, decide_false, and_self]
  refine run_keep (l' := [(0, .sl b.length (u8s b)), (3, .str ((leadM b).take 0)), (4, .str mustL), (5, .int .i64 0)]) (t' := []) (nx' := _) ⟨.refl _, .refl _, .refl _, .refl _, trivial⟩ trivial (Nat.le_refl _) ?_
  refine run_loop (fun n s => ∃ (i nx : Nat), i ≤ 24 ∧ n = 24 - i ∧ s = mkS [(0, .sl b.length (u8s b)), (3, .str ((leadM b).take i)), (4, .str mustL), (5, .int .i64 i)] [] nx) _ ⟨0, _, Nat.zero_le _, rfl, rfl⟩ ?_
  rintro n s ⟨i, nx, hi, rfl, rfl⟩
  by_cases h : i < 24
  · have h' : (i : Int) < 24 := by omega
    have hw : IntKind.i64.wrap ((i : Int) + 1) = ((i + 1 : Nat) : Int) := by rw [wrap_i64 (by omega)]; omega
    have hw2 : IntKind.i64.wrap ((i : Int) + 2) = (i : Int) + 2 := wrap_i64 (by omega)
    have ht2 : ((i : Int) + 2).toNat = i + 2 := by omega
    have h0i : (0 : Int) ≤ (i : Int) + 2 := by omega
    have hi26 : (i : Int) + 2 < 26 := by omega
    have hsn := leadM_snoc b i h
    have hcls := leadC_cls b i h
    have hlen : ((leadM b).take i).length = i := by rw [List.length_take, leadM_len]; omega
    have hpc := padC_in hb i
    have hun : ∀ v : Int, 0 ≤ v ∧ v < 256 → u8n [v] = [v] := fun v hv => u8n_eq fun c hc => by rw [List.mem_singleton] at hc; subst hc; exact hv
    have hgb : i < b.length → (u8s b).getD i .dead = .int .u8 (padC b i) := fun k => by rw [u8s_getD b i k]; unfold padC; rw [if_pos k]
    have hp32 : ¬ i < b.length → padC b i = 32 := fun k => by unfold padC; rw [if_neg k]
    have h32 := hun 32 (by omega)
    have h48 := hun 48 (by omega)
    have h50 := hun 50 (by omega)
    have h52 := hun 52 (by omega)
    have h53 := hun 53 (by omega)
    have hun97 := hun 97 (by omega)
    have hum : u8n [mustL.getD (i + 2) 0] = [mustL.getD (i + 2) 0] := hun _ (by
      rcases (show i = 0 ∨ i = 1 ∨ i = 2 ∨ i = 3 ∨ i = 4 ∨ i = 5 ∨ i = 6 ∨ i = 7 ∨ i = 8 ∨ i = 9 ∨ i = 10 ∨ i = 11 ∨ i = 12 ∨ i = 13 ∨ i = 14 ∨ i = 15 ∨ i = 16 ∨ i = 17 ∨ i = 18 ∨ i = 19 ∨ i = 20 ∨ i = 21 ∨ i = 22 ∨ i = 23 by omega) with rfl | rfl | rfl | rfl | rfl | rfl | rfl | rfl | rfl | rfl | rfl | rfl | rfl | rfl | rfl | rfl | rfl | rfl | rfl | rfl | rfl | rfl | rfl | rfl <;> decide)
    have hio : ∀ v : Int, intsOf [.int .u8 v] = some [v] := fun v => rfl
    generalize hX : (leadM b).take i = X at *
    generalize hY : (leadM b).take (i + 1) = Y at *
    generalize padC b i = c at *
    by_cases hib : i < b.length
    · have hg := hgb hib
      have hib' : (i : Int) < (b.length : Int) := by omega
      have hpos : 0 < b.length := by omega
      refine ex_run 14 ?_
      simp (maxSteps := 400000) only [h', hib, hib', hg, hpos, hw, hw2, hml, push_cast, List.getD_cons_zero, List.getD_cons_succ, List.take_succ_cons, List.take_zero, List.drop_succ_cons, Nat.reduceLT, Nat.reduceLeDiff, Nat.reduceEqDiff, Nat.reduceAdd, Nat.reduceMul, Nat.reduceSub, Int.reduceToNat, Int.reduceLE, Int.reduceLT, Int.reduceEq, Int.reduceAdd, ↓reduceIte, decide_true, decide_false, and_self]
      refine run_keep (l' := [(0, .sl b.length (u8s b)), (3, .str X), (4, .str mustL), (5, .int .i64 i), (6, .int .u8 c)]) (t' := []) (nx' := _) ⟨.refl _, .refl _, .refl _, .refl _, .refl _, trivial⟩ trivial (Nat.le_refl _) ?_
      generalize nx + 2 + 1 + 4 + 5 = nx2
      have huc := hun c (by omega)
      rcases (show (c < 32 ∧ ¬ 126 < c ∧ ¬ c = 97) ∨ (¬ c < 32 ∧ 126 < c ∧ ¬ c = 97) ∨ (¬ c < 32 ∧ ¬ 126 < c ∧ ¬ c = 97) ∨ (¬ c < 32 ∧ ¬ 126 < c ∧ c = 97) by omega) with ⟨hc1, hc2, hc3⟩ | ⟨hc1, hc2, hc3⟩ | ⟨hc1, hc2, hc3⟩ | ⟨hc1, hc2, hc3⟩
      all_goals
        rcases hcls with ⟨hA, hB, hC, h9, h10, h11, h20, hL⟩ | ⟨hA, hB, hC, h9, h10, h11, h20, hL⟩ | ⟨hA, hB, hC, h9, h10, h11, h20, hL⟩ | ⟨hA, hB, hC, h9, h10, h11, h20, hL⟩ | ⟨hA, hB, hC, h9, h10, h11, h20, hL⟩ | ⟨hA, hB, hC, h9, h10, h11, h20, hL⟩ | ⟨hA, hB, hC, h9, h10, h11, h20, hL⟩ | ⟨hA, hB, hC, h9, h10, h11, h20, hL⟩
        all_goals
          refine ex_run 60 ?_
          simp (maxSteps := 400000) only [hA, hB, hC, h9, h10, h11, h20, hc1, hc2, hc3, hio, huc, h32, h48, h50, h52, h53, hlen, hw, hw2, hml, hi26, ht2, h0i, hum, hun97, Nat.reduceAdd, wrap_i64, Int.reduceNeg, push_cast, List.getD_cons_zero, List.getD_cons_succ, List.take_succ_cons, List.take_zero, List.drop_succ_cons, Nat.reduceLT, Nat.reduceLeDiff, Nat.reduceEqDiff, Nat.reduceAdd, Nat.reduceMul, Nat.reduceSub, Int.reduceToNat, Int.reduceLE, Int.reduceLT, Int.reduceEq, Int.reduceAdd, ↓reduceIte, decide_true, decide_false, and_self]
          refine ⟨by omega, ?_⟩
          refine run_back_le (le_mk (l' := [(0, .sl b.length (u8s b)), (3, .str Y), (4, .str mustL), (5, .int .i64 ((i + 1 : Nat) : Int))]) (t' := []) (nx' := _) ⟨.refl _, .of_eq (congrArg AV.str (by first | (rw [hsn, hL]; done) | (rw [hsn, hL]; rfl) | (rw [hsn, hL]; simp [hc1, hc2, hc3]; done) | (rw [hsn, hL]; simp [hc1, hc2, hc3]; omega))), .refl _, .of_eq (congrArg (AV.int .i64) (by omega)), trivial⟩ trivial (Nat.le_refl _)) ?_
          exact ⟨24 - (i + 1), by omega, i + 1, _, by omega, rfl, by rw [← hY]⟩
    · have hib' : ¬ (i : Int) < (b.length : Int) := by omega
      have hc32 := hp32 hib
      subst hc32
      refine ex_run 14 ?_
      simp (maxSteps := 400000) only [h', hib', push_cast, List.getD_cons_zero, List.getD_cons_succ, List.take_succ_cons, List.take_zero, List.drop_succ_cons, Nat.reduceLT, Nat.reduceLeDiff, Nat.reduceEqDiff, Nat.reduceAdd, Nat.reduceMul, Nat.reduceSub, Int.reduceToNat, Int.reduceLE, Int.reduceLT, Int.reduceEq, Int.reduceAdd, ↓reduceIte, decide_true, decide_false, and_self]
      refine run_keep (l' := [(0, .sl b.length (u8s b)), (3, .str X), (4, .str mustL), (5, .int .i64 i), (6, .int .u8 32)]) (t' := []) (nx' := _) ⟨.refl _, .refl _, .refl _, .refl _, .refl _, trivial⟩ trivial (Nat.le_refl _) ?_
      generalize nx + 2 + 1 + 4 = nx2
      have huc := hun 32 (by omega)
      have hc1 : ¬ (32 : Int) < 32 := by omega
      have hc2 : ¬ (126 : Int) < 32 := by omega
      have hc3 : ¬ (32 : Int) = 97 := by omega
      rcases hcls with ⟨hA, hB, hC, h9, h10, h11, h20, hL⟩ | ⟨hA, hB, hC, h9, h10, h11, h20, hL⟩ | ⟨hA, hB, hC, h9, h10, h11, h20, hL⟩ | ⟨hA, hB, hC, h9, h10, h11, h20, hL⟩ | ⟨hA, hB, hC, h9, h10, h11, h20, hL⟩ | ⟨hA, hB, hC, h9, h10, h11, h20, hL⟩ | ⟨hA, hB, hC, h9, h10, h11, h20, hL⟩ | ⟨hA, hB, hC, h9, h10, h11, h20, hL⟩
      all_goals
        refine ex_run 60 ?_
        simp (maxSteps := 400000) only [hA, hB, hC, h9, h10, h11, h20, hc1, hc2, hc3, hio, huc, h32, h48, h50, h52, h53, hlen, hw, hw2, hml, hi26, ht2, h0i, hum, hun97, Nat.reduceAdd, wrap_i64, Int.reduceNeg, push_cast, List.getD_cons_zero, List.getD_cons_succ, List.take_succ_cons, List.take_zero, List.drop_succ_cons, Nat.reduceLT, Nat.reduceLeDiff, Nat.reduceEqDiff, Nat.reduceAdd, Nat.reduceMul, Nat.reduceSub, Int.reduceToNat, Int.reduceLE, Int.reduceLT, Int.reduceEq, Int.reduceAdd, ↓reduceIte, decide_true, decide_false, and_self]
        refine ⟨by omega, ?_⟩
        refine run_back_le (le_mk (l' := [(0, .sl b.length (u8s b)), (3, .str Y), (4, .str mustL), (5, .int .i64 ((i + 1 : Nat) : Int))]) (t' := []) (nx' := _) ⟨.refl _, .of_eq (congrArg AV.str (by first | (rw [hsn, hL]; done) | (rw [hsn, hL]; rfl) | (rw [hsn, hL]; simp [hc1, hc2, hc3]; done) | (rw [hsn, hL]; simp [hc1, hc2, hc3]; omega))), .refl _, .of_eq (congrArg (AV.int .i64) (by omega)), trivial⟩ trivial (Nat.le_refl _)) ?_
        exact ⟨24 - (i + 1), by omega, i + 1, _, by omega, rfl, by rw [← hY]⟩
  · have hie : i = 24 := by omega
    subst hie
    have e : (leadM b).take 24 = leadM b := List.take_of_length_le (by rw [leadM_len]; exact Nat.le_refl _)
    rw [e]
    refine ex_run 60 ?_
    simp (maxSteps := 200000) only [push_cast, List.getD_cons_zero, List.getD_cons_succ, List.take_succ_cons, List.take_zero, List.drop_succ_cons, Nat.reduceLT, Nat.reduceLeDiff, Nat.reduceEqDiff, Nat.reduceAdd, Nat.reduceMul, Nat.reduceSub, Int.reduceToNat, Int.reduceLE, Int.reduceLT, Int.reduceEq, Int.reduceAdd, ↓reduceIte, decide_true, decide_false, and_self]
    exact ⟨_, _, rfl, rfl, .refl _, rfl⟩
end Go.Proofs.YteapibifebnboaaDoor
