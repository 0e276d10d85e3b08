/- mend.Lead and its like in ref19. -/
import Derived.Test.YteapibifebnboaaDoorMndA
import Derived.Test.YteapibifebnboaaDoorGRc
set_option linter.unusedVariables false
set_option linter.unusedSimpArgs false
namespace Go.Proofs.YteapibifebnboaaDoor
open Go Go.Eng
def padC (b : List Int) (i : Nat) : Int := if i < b.length then b.getD i 0 else 32
def padB (b : List Int) : List Int := (List.range 24).map (padC b)
def leadC (b : List Int) (i : Nat) : Int :=
  if numAt i = true then 48 else if mustB i ≠ 0 then mustB i else if ((i = 9 ∧ padC b i ≠ 97) ∨ indB (padC b i) = false) then 32 else padC b i
/-- A leader, as near to bytes as may be. -/
def leadM (b : List Int) : List Int := (List.range 24).map (leadC b)
theorem padB_len (b : List Int) : (padB b).length = 24 := by simp [padB]
theorem leadM_len (b : List Int) : (leadM b).length = 24 := by simp [leadM]
theorem padB_get (b : List Int) (i : Nat) (h : i < 24) : (padB b).getD i 0 = padC b i := by simp [padB, List.getD_eq_getElem?_getD, h]
theorem leadM_get (b : List Int) (i : Nat) (h : i < 24) : (leadM b).getD i 0 = leadC b i := by simp [leadM, List.getD_eq_getElem?_getD, h]
def outTo (b : List Int) (i : Nat) : List Int := (leadM b).take i ++ (padB b).drop i
theorem outTo_len (b : List Int) (i : Nat) (h : i ≤ 24) : (outTo b i).length = 24 := by
  unfold outTo; rw [List.length_append, List.length_take, List.length_drop, padB_len, leadM_len]; omega
theorem outTo_get (b : List Int) (i : Nat) (h : i < 24) : (outTo b i).getD i 0 = padC b i := by
  unfold outTo
  rw [List.getD_eq_getElem?_getD, List.getElem?_append_right (by rw [List.length_take, leadM_len]; omega), List.length_take, leadM_len, List.getElem?_drop, show i + (i - min i 24) = i by omega, ← List.getD_eq_getElem?_getD, padB_get b i h]
theorem outTo_set (b : List Int) (i : Nat) (h : i < 24) : (outTo b i).set i (leadC b i) = outTo b (i + 1) := by
  unfold outTo
  have hl : ((leadM b).take i).length = i := by rw [List.length_take, leadM_len]; omega
  rw [List.set_append_right _ _ (by omega), hl, Nat.sub_self, List.drop_eq_getElem_cons (by rw [padB_len]; exact h), List.set_cons_zero, List.take_add_one, List.getElem?_eq_getElem (by rw [leadM_len]; exact h), List.append_assoc]
  have := leadM_get b i h
  rw [List.getD_eq_getElem?_getD, List.getElem?_eq_getElem (by rw [leadM_len]; exact h)] at this
  simp only [Option.getD_some] at this
  rw [← this]; rfl
theorem outTo_same (b : List Int) (i : Nat) (h : i < 24) (e : padC b i = leadC b i) : outTo b i = outTo b (i + 1) := by
  rw [← outTo_set b i h, ← e, ← outTo_get b i h, List.getD_eq_getElem?_getD, List.getElem?_eq_getElem (by rw [outTo_len b i (by omega)]; exact h)]
  simp
theorem leadM_snoc (b : List Int) (i : Nat) (h : i < 24) : (leadM b).take (i + 1) = (leadM b).take i ++ [leadC b i] := by
  have := leadM_get b i h
  rw [List.getD_eq_getElem?_getD, List.getElem?_eq_getElem (by rw [leadM_len]; exact h)] at this
  simp only [Option.getD_some] at this
  rw [List.take_add_one, List.getElem?_eq_getElem (by rw [leadM_len]; exact h), this]; rfl
theorem padC_in {b : List Int} (hb : inB b) (i : Nat) : 0 ≤ padC b i ∧ padC b i < 256 := by
  unfold padC
  split
  · rename_i h
    rw [List.getD_eq_getElem?_getD, List.getElem?_eq_getElem h]; exact hb _ (List.getElem_mem h)
  · omega
theorem leadC_in {b : List Int} (hb : inB b) (i : Nat) : 0 ≤ leadC b i ∧ leadC b i < 256 := by
  have := padC_in hb i
  unfold leadC mustB
  repeat' split
  all_goals omega
theorem leadM_in {b : List Int} (hb : inB b) : inB (leadM b) := fun c hc => by
  obtain ⟨i, _, rfl⟩ := List.mem_map.1 hc; exact leadC_in hb i
set_option maxRecDepth 100000 in
theorem Number_c (i : Int) : ACall Tryd.prog 30 [.int .i64 i] (.bool (numAt i)) none := by
  refine acall_intro none Tryd.func30 rfl (by kernel_rfl) (by simp [Tryd.f30]) ?_
  refine ex_run 30 ?_
  simp (maxSteps := 200000) only [Tryd.f30, push_cast, List.getD_cons_zero, List.getD_cons_succ, List.take_succ_cons, List.take_zero, List.drop_succ_cons, Nat.reduceLT, Nat.reduceLeDiff, Nat.reduceEqDiff, Nat.reduceAdd, Nat.reduceMul, Nat.reduceSub, Int.reduceToNat, Int.reduceLE, Int.reduceLT, Int.reduceEq, Int.reduceAdd, ↓reduceIte, decide_true, decide_false, and_self]
  refine call_intro (number1_c i) (fun h => by cases h) ?_
  simp (maxSteps := 200000) only [push_cast, List.getD_cons_zero, List.getD_cons_succ, List.take_succ_cons, List.take_zero, List.drop_succ_cons, Nat.reduceLT, Nat.reduceLeDiff, Nat.reduceEqDiff, Nat.reduceAdd, Nat.reduceMul, Nat.reduceSub, Int.reduceToNat, Int.reduceLE, Int.reduceLT, Int.reduceEq, Int.reduceAdd, ↓reduceIte, decide_true, decide_false, and_self]
  exact ⟨_, _, rfl, rfl, .refl _, rfl⟩
set_option maxRecDepth 100000 in
theorem Must_c (i : Int) : ACall Tryd.prog 31 [.int .i64 i] (.int .u8 (mustB i)) none := by
  refine acall_intro none Tryd.func31 rfl (by kernel_rfl) (by simp [Tryd.f31]) ?_
  refine ex_run 30 ?_
  simp (maxSteps := 200000) only [Tryd.f31, push_cast, List.getD_cons_zero, List.getD_cons_succ, List.take_succ_cons, List.take_zero, List.drop_succ_cons, Nat.reduceLT, Nat.reduceLeDiff, Nat.reduceEqDiff, Nat.reduceAdd, Nat.reduceMul, Nat.reduceSub, Int.reduceToNat, Int.reduceLE, Int.reduceLT, Int.reduceEq, Int.reduceAdd, ↓reduceIte, decide_true, decide_false, and_self]
  refine call_intro (must_c i) (fun h => by cases h) ?_
  simp (maxSteps := 200000) only [push_cast, List.getD_cons_zero, List.getD_cons_succ, List.take_succ_cons, List.take_zero, List.drop_succ_cons, Nat.reduceLT, Nat.reduceLeDiff, Nat.reduceEqDiff, Nat.reduceAdd, Nat.reduceMul, Nat.reduceSub, Int.reduceToNat, Int.reduceLE, Int.reduceLT, Int.reduceEq, Int.reduceAdd, ↓reduceIte, decide_true, decide_false, and_self]
  exact ⟨_, _, rfl, rfl, .refl _, rfl⟩
theorem pad_copy (b : List Int) : setAll (u8s (List.replicate 24 32)) 0 (u8s (b.take (min b.length 24))) = u8s (padB b) := by
  rw [setAll_eq _ _ _ (by simp [u8s]; omega)]
  rw [u8s_take, u8s_length, u8s_drop]
  simp only [List.take_zero, List.nil_append, Nat.zero_add, u8s_append]
  congr 1
  apply List.ext_getElem
  · rw [padB_len]; simp; omega
  · intro i h1 h2
    rw [padB_len] at h2
    have e := padB_get b i h2
    rw [List.getD_eq_getElem?_getD, List.getElem?_eq_getElem (by rw [padB_len]; exact h2)] at e
    simp only [Option.getD_some] at e
    rw [e]
    unfold padC
    by_cases h : i < b.length
    · rw [if_pos h, List.getElem_append_left (by rw [List.length_take]; omega), List.getElem_take, List.getD_eq_getElem?_getD, List.getElem?_eq_getElem h]; rfl
    · rw [if_neg h, List.getElem_append_right (by rw [List.length_take]; omega), List.getElem_drop, List.getElem_replicate]
set_option maxRecDepth 100000 in
set_option maxHeartbeats 8000000 in
theorem Lead_c (b : List Int) (hl : b.length ≤ 9223372036854775807) (hb : inB b) : ACall Tryd.prog 12 [.sl b.length (u8s b)] (.str (leadM b)) none := by
  have hu : u8n (leadM b) = leadM b := u8n_eq (leadM_in hb)
  have hpc := pad_copy b
  refine acall_intro none Tryd.func12 rfl (by kernel_rfl) (by simp [Tryd.f12]) ?_
  refine ex_run 30 ?_
  simp (maxSteps := 200000) only [Tryd.f12, push_cast, List.getD_cons_zero, List.getD_cons_succ, List.take_succ_cons, List.take_zero, List.drop_succ_cons, Nat.reduceLT, Nat.reduceLeDiff, Nat.reduceEqDiff, Nat.reduceAdd, Nat.reduceMul, Nat.reduceSub, Int.reduceToNat, Int.reduceLE, Int.reduceLT, Int.reduceEq, Int.reduceAdd, ↓reduceIte, decide_true, decide_false, and_self]
  refine call_intro Repeat_c (fun _ => ⟨rfl, fun T0 e => by cases e; exact u8s_noSl _⟩) ?_
  simp (maxSteps := 200000) only [u8s_length, hpc, push_cast, List.getD_cons_zero, List.getD_cons_succ, List.take_succ_cons, List.take_zero, List.drop_succ_cons, Nat.reduceLT, Nat.reduceLeDiff, Nat.reduceEqDiff, Nat.reduceAdd, Nat.reduceMul, Nat.reduceSub, Int.reduceToNat, Int.reduceLE, Int.reduceLT, Int.reduceEq, Int.reduceAdd, ↓reduceIte, decide_true, decide_false, and_self]
  refine ⟨by simp, ?_⟩
  refine run_keep (l' := [(3, .own 7 2 0 24), (11, .own 7 2 0 24), (12, .int .i64 24), (13, .int .i64 0)]) (t' := [(7, ⟨2, 1, u8s (outTo b 0)⟩)]) (nx' := _) ⟨.refl _, .refl _, .refl _, .refl _, trivial⟩ ⟨⟨_, rfl, rfl, rfl, SubL.refl _⟩, trivial⟩ (Nat.le_refl _) ?_
  refine run_loop (fun n s => ∃ (i nx : Nat), i ≤ 24 ∧ n = 24 - i ∧ s = mkS [(3, .own 7 2 0 24), (11, .own 7 2 0 24), (12, .int .i64 24), (13, .int .i64 i)] [(7, ⟨2, 1, u8s (outTo b i)⟩)] nx) _ ⟨0, _, Nat.zero_le _, rfl, rfl⟩ ?_
  rintro n s ⟨i, nx, hi, rfl, rfl⟩
  have hol := outTo_len b i hi
  by_cases h : i < 24
  · have h' : (i : Int) < 24 := by omega
    have hw : IntKind.i64.wrap ((i : Int) + 1) = ((i + 1 : Nat) : Int) := by rw [wrap_i64 (by omega)]; omega
    have hg := u8s_getD (outTo b i) i (by omega)
    rw [outTo_get b i h] at hg
    have hle : i + 1 ≤ 24 := by omega
    have hset : ∀ v, v = leadC b i → (u8s (outTo b i)).set i (.int .u8 v) = u8s (outTo b (i + 1)) := fun v e => by rw [u8s_set, e, outTo_set b i h]
    have hsame : padC b i = leadC b i → u8s (outTo b i) = u8s (outTo b (i + 1)) := fun e => by rw [← outTo_same b i h e]
    have hlc : leadC b i = if numAt i = true then 48 else if mustB i ≠ 0 then mustB i else if ((i = 9 ∧ padC b i ≠ 97) ∨ indB (padC b i) = false) then 32 else padC b i := rfl
    generalize padC b i = c at *
    refine ex_run 60 ?_
    simp (maxSteps := 200000) only [h, h', hg, hol, u8s_length, hle, push_cast, List.getD_cons_zero, List.getD_cons_succ, List.take_succ_cons, List.take_zero, List.drop_succ_cons, Nat.reduceLT, Nat.reduceLeDiff, Nat.reduceEqDiff, Nat.reduceAdd, Nat.reduceMul, Nat.reduceSub, Int.reduceToNat, Int.reduceLE, Int.reduceLT, Int.reduceEq, Int.reduceAdd, ↓reduceIte, decide_true, decide_false, and_self]
    refine call_intro (Number_c i) (fun h => by cases h) ?_
    cases hn : numAt i with
    | true =>
      simp (maxSteps := 200000) only [h, h', hol, hle, hw, u8s_length, push_cast, List.getD_cons_zero, List.getD_cons_succ, List.take_succ_cons, List.take_zero, List.drop_succ_cons, Nat.reduceLT, Nat.reduceLeDiff, Nat.reduceEqDiff, Nat.reduceAdd, Nat.reduceMul, Nat.reduceSub, Int.reduceToNat, Int.reduceLE, Int.reduceLT, Int.reduceEq, Int.reduceAdd, ↓reduceIte, decide_true, decide_false, and_self]
      rw [hset 48 (by rw [hlc, if_pos hn])]
      refine run_back_le (le_mk (l' := [(3, .own 7 2 0 24), (11, .own 7 2 0 24), (12, .int .i64 24), (13, .int .i64 ((i + 1 : Nat) : Int))]) (t' := [(7, ⟨2, 1, u8s (outTo b (i + 1))⟩)]) (nx' := _) ⟨.refl _, .refl _, .refl _, .of_eq (congrArg (AV.int .i64) (by omega)), trivial⟩ ⟨⟨_, rfl, rfl, rfl, SubL.refl _⟩, trivial⟩ (Nat.le_refl _)) ?_
      exact ⟨24 - (i + 1), by omega, i + 1, _, by omega, rfl, rfl⟩
    | false =>
      have hnn : ¬ numAt i = true := by rw [hn]; simp
      simp (maxSteps := 200000) only [h, h', hol, hle, hw, u8s_length, push_cast, List.getD_cons_zero, List.getD_cons_succ, List.take_succ_cons, List.take_zero, List.drop_succ_cons, Nat.reduceLT, Nat.reduceLeDiff, Nat.reduceEqDiff, Nat.reduceAdd, Nat.reduceMul, Nat.reduceSub, Int.reduceToNat, Int.reduceLE, Int.reduceLT, Int.reduceEq, Int.reduceAdd, ↓reduceIte, decide_true, decide_false, and_self]
      refine call_intro (Must_c i) (fun h => by cases h) ?_
      by_cases hm : mustB i = 0
      · simp (maxSteps := 200000) only [hm, push_cast, List.getD_cons_zero, List.getD_cons_succ, List.take_succ_cons, List.take_zero, List.drop_succ_cons, Nat.reduceLT, Nat.reduceLeDiff, Nat.reduceEqDiff, Nat.reduceAdd, Nat.reduceMul, Nat.reduceSub, Int.reduceToNat, Int.reduceLE, Int.reduceLT, Int.reduceEq, Int.reduceAdd, ↓reduceIte, decide_true, decide_false, and_self]
        by_cases h9 : i = 9 ∧ c ≠ 97
        · obtain ⟨rfl, h97⟩ := h9
          simp (maxSteps := 200000) only [h97, hol, hle, hw, u8s_length, push_cast, List.getD_cons_zero, List.getD_cons_succ, List.take_succ_cons, List.take_zero, List.drop_succ_cons, Nat.reduceLT, Nat.reduceLeDiff, Nat.reduceEqDiff, Nat.reduceAdd, Nat.reduceMul, Nat.reduceSub, Int.reduceToNat, Int.reduceLE, Int.reduceLT, Int.reduceEq, Int.reduceAdd, ↓reduceIte, decide_true, decide_false, and_self]
          rw [hset 32 (by rw [hlc, if_neg hnn, if_neg (by rw [hm]; simp), if_pos (.inl ⟨rfl, h97⟩)])]
          refine run_back_le (le_mk (l' := [(3, .own 7 2 0 24), (11, .own 7 2 0 24), (12, .int .i64 24), (13, .int .i64 10)]) (t' := [(7, ⟨2, 1, u8s (outTo b 10)⟩)]) (nx' := _) ⟨.refl _, .refl _, .refl _, .refl _, trivial⟩ ⟨⟨_, rfl, rfl, rfl, SubL.refl _⟩, trivial⟩ (Nat.le_refl _)) ?_
          exact ⟨24 - 10, by omega, 10, _, by omega, rfl, rfl⟩
        · have hq : (i : Int) = 9 → c = 97 := fun e => by
            by_cases e2 : c = 97
            · exact e2
            · exact absurd ⟨by omega, e2⟩ h9
          by_cases h9' : (i : Int) = 9
          · have e97 := hq h9'
            have hi9 : i = 9 := by omega
            subst hi9
            subst e97
            simp (maxSteps := 200000) only [h', hol, hle, hw, u8s_length, push_cast, List.getD_cons_zero, List.getD_cons_succ, List.take_succ_cons, List.take_zero, List.drop_succ_cons, Nat.reduceLT, Nat.reduceLeDiff, Nat.reduceEqDiff, Nat.reduceAdd, Nat.reduceMul, Nat.reduceSub, Int.reduceToNat, Int.reduceLE, Int.reduceLT, Int.reduceEq, Int.reduceAdd, ↓reduceIte, decide_true, decide_false, and_self]
            refine call_intro (Ind_c 97) (fun h => by cases h) ?_
            rw [show indB 97 = true from rfl]
            simp (maxSteps := 200000) only [h', hol, hle, hw, u8s_length, push_cast, List.getD_cons_zero, List.getD_cons_succ, List.take_succ_cons, List.take_zero, List.drop_succ_cons, Nat.reduceLT, Nat.reduceLeDiff, Nat.reduceEqDiff, Nat.reduceAdd, Nat.reduceMul, Nat.reduceSub, Int.reduceToNat, Int.reduceLE, Int.reduceLT, Int.reduceEq, Int.reduceAdd, ↓reduceIte, decide_true, decide_false, and_self]
            rw [hsame (by rw [hlc, if_neg hnn, if_neg (by rw [hm]; simp), if_neg (by rintro (⟨_, e⟩ | e); exact e rfl; cases e)])]
            refine run_back_le (le_mk (l' := [(3, .own 7 2 0 24), (11, .own 7 2 0 24), (12, .int .i64 24), (13, .int .i64 10)]) (t' := [(7, ⟨2, 1, u8s (outTo b 10)⟩)]) (nx' := _) ⟨.refl _, .refl _, .refl _, .refl _, trivial⟩ ⟨⟨_, rfl, rfl, rfl, SubL.refl _⟩, trivial⟩ (Nat.le_refl _)) ?_
            exact ⟨24 - 10, by omega, 10, _, by omega, rfl, rfl⟩
          · simp (maxSteps := 200000) only [h9', hol, hle, hw, u8s_length, push_cast, List.getD_cons_zero, List.getD_cons_succ, List.take_succ_cons, List.take_zero, List.drop_succ_cons, Nat.reduceLT, Nat.reduceLeDiff, Nat.reduceEqDiff, Nat.reduceAdd, Nat.reduceMul, Nat.reduceSub, Int.reduceToNat, Int.reduceLE, Int.reduceLT, Int.reduceEq, Int.reduceAdd, ↓reduceIte, decide_true, decide_false, and_self]
            refine call_intro (Ind_c c) (fun h => by cases h) ?_
            cases hic : indB c with
            | false =>
              simp (maxSteps := 200000) only [h', hol, hle, hw, u8s_length, push_cast, List.getD_cons_zero, List.getD_cons_succ, List.take_succ_cons, List.take_zero, List.drop_succ_cons, Nat.reduceLT, Nat.reduceLeDiff, Nat.reduceEqDiff, Nat.reduceAdd, Nat.reduceMul, Nat.reduceSub, Int.reduceToNat, Int.reduceLE, Int.reduceLT, Int.reduceEq, Int.reduceAdd, ↓reduceIte, decide_true, decide_false, and_self]
              rw [hset 32 (by rw [hlc, if_neg hnn, if_neg (by rw [hm]; simp), if_pos (.inr hic)])]
              refine run_back_le (le_mk (l' := [(3, .own 7 2 0 24), (11, .own 7 2 0 24), (12, .int .i64 24), (13, .int .i64 ((i + 1 : Nat) : Int))]) (t' := [(7, ⟨2, 1, u8s (outTo b (i + 1))⟩)]) (nx' := _) ⟨.refl _, .refl _, .refl _, .of_eq (congrArg (AV.int .i64) (by omega)), trivial⟩ ⟨⟨_, rfl, rfl, rfl, SubL.refl _⟩, trivial⟩ (Nat.le_refl _)) ?_
              exact ⟨24 - (i + 1), by omega, i + 1, _, by omega, rfl, rfl⟩
            | true =>
              simp (maxSteps := 200000) only [h', hol, hle, hw, u8s_length, push_cast, List.getD_cons_zero, List.getD_cons_succ, List.take_succ_cons, List.take_zero, List.drop_succ_cons, Nat.reduceLT, Nat.reduceLeDiff, Nat.reduceEqDiff, Nat.reduceAdd, Nat.reduceMul, Nat.reduceSub, Int.reduceToNat, Int.reduceLE, Int.reduceLT, Int.reduceEq, Int.reduceAdd, ↓reduceIte, decide_true, decide_false, and_self]
              rw [hsame (by rw [hlc, if_neg hnn, if_neg (by rw [hm]; simp), if_neg (by rintro (⟨e, _⟩ | e); exact h9' (by omega); rw [hic] at e; cases e)])]
              refine run_back_le (le_mk (l' := [(3, .own 7 2 0 24), (11, .own 7 2 0 24), (12, .int .i64 24), (13, .int .i64 ((i + 1 : Nat) : Int))]) (t' := [(7, ⟨2, 1, u8s (outTo b (i + 1))⟩)]) (nx' := _) ⟨.refl _, .refl _, .refl _, .of_eq (congrArg (AV.int .i64) (by omega)), trivial⟩ ⟨⟨_, rfl, rfl, rfl, SubL.refl _⟩, trivial⟩ (Nat.le_refl _)) ?_
              exact ⟨24 - (i + 1), by omega, i + 1, _, by omega, rfl, rfl⟩
      · simp (maxSteps := 200000) only [hm, push_cast, List.getD_cons_zero, List.getD_cons_succ, List.take_succ_cons, List.take_zero, List.drop_succ_cons, Nat.reduceLT, Nat.reduceLeDiff, Nat.reduceEqDiff, Nat.reduceAdd, Nat.reduceMul, Nat.reduceSub, Int.reduceToNat, Int.reduceLE, Int.reduceLT, Int.reduceEq, Int.reduceAdd, ↓reduceIte, decide_true, decide_false, and_self]
        refine call_intro (Must_c i) (fun h => by cases h) ?_
        simp (maxSteps := 200000) only [hm, h', hol, hle, hw, u8s_length, push_cast, List.getD_cons_zero, List.getD_cons_succ, List.take_succ_cons, List.take_zero, List.drop_succ_cons, Nat.reduceLT, Nat.reduceLeDiff, Nat.reduceEqDiff, Nat.reduceAdd, Nat.reduceMul, Nat.reduceSub, Int.reduceToNat, Int.reduceLE, Int.reduceLT, Int.reduceEq, Int.reduceAdd, ↓reduceIte, decide_true, decide_false, and_self]
        rw [hset (mustB i) (by rw [hlc, if_neg hnn, if_pos hm])]
        refine run_back_le (le_mk (l' := [(3, .own 7 2 0 24), (11, .own 7 2 0 24), (12, .int .i64 24), (13, .int .i64 ((i + 1 : Nat) : Int))]) (t' := [(7, ⟨2, 1, u8s (outTo b (i + 1))⟩)]) (nx' := _) ⟨.refl _, .refl _, .refl _, .of_eq (congrArg (AV.int .i64) (by omega)), trivial⟩ ⟨⟨_, rfl, rfl, rfl, SubL.refl _⟩, trivial⟩ (Nat.le_refl _)) ?_
        exact ⟨24 - (i + 1), by omega, i + 1, _, by omega, rfl, rfl⟩
  · have hie : i = 24 := by omega
    subst hie
    have e : outTo b 24 = leadM b := by unfold outTo; rw [List.take_of_length_le (by rw [leadM_len]; exact Nat.le_refl _), List.drop_of_length_le (by rw [padB_len]; exact Nat.le_refl _), List.append_nil]
    have htk : (leadM b).take 24 = leadM b := List.take_of_length_le (by rw [leadM_len]; exact Nat.le_refl _)
    have hml := leadM_len b
    refine ex_run 60 ?_
    simp (maxSteps := 200000) only [e, htk, hu, hml, push_cast, List.getD_cons_zero, List.getD_cons_succ, List.take_succ_cons, List.take_zero, List.drop_succ_cons, Nat.reduceLT, Nat.reduceLeDiff, Nat.reduceEqDiff, Nat.reduceAdd, Nat.reduceMul, Nat.reduceSub, Int.reduceToNat, Int.reduceLE, Int.reduceLT, Int.reduceEq, Int.reduceAdd, ↓reduceIte, decide_true, decide_false, and_self]
    exact ⟨_, _, rfl, rfl, .refl _, rfl⟩
end Go.Proofs.YteapibifebnboaaDoor
