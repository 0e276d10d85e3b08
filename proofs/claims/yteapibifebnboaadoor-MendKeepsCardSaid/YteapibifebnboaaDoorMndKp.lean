/- Law MendKeeps: the walk. -/
import Derived.Test.YteapibifebnboaaDoorMndZ
import Derived.Test.YteapibifebnboaaDoorMndM
set_option linter.unusedVariables false
set_option linter.unusedSimpArgs false
namespace Go.Proofs.YteapibifebnboaaDoor
open Go Go.Eng
theorem u8s_setK (b : List Int) (j : Nat) (c : Int) : (u8s b).set j (.int .u8 c) = u8s (b.set j c) := by simp [u8s, List.map_set]
theorem inB_set {b : List Int} (hb : inB b) (j : Nat) {c : Int} (hc : 0 ≤ c ∧ c < 256) : inB (b.set j c) := fun d hd => by
  rcases List.mem_or_eq_of_mem_set hd with hd | rfl
  · exact hb d hd
  · exact hc
theorem frz_ownE (t gt : Nat) (l : List Int) (n : Nat) (h : l.length = n) : Frz t ⟨gt, 1, u8s l⟩ (.own t gt 0 n) (.sl l.length (u8s l)) := by subst h; exact frz_own t gt l
theorem frz_ownT (t gt : Nat) (l : List Int) (k : Nat) (h : k ≤ l.length) : Frz t ⟨gt, 1, u8s l⟩ (.own t gt 0 k) (.sl (l.take k).length (u8s (l.take k))) := by
  have := Frz.own (t := t) (T := ⟨gt, 1, u8s l⟩) 0 k (by simp [u8s]; exact h)
  have e : ((u8s l).drop 0).take (k * 1) = u8s (l.take k) := by simp [u8s, List.map_take]
  rw [show ((⟨gt, 1, u8s l⟩ : Tok).cs.drop 0).take (k * (⟨gt, 1, u8s l⟩ : Tok).sz) = u8s (l.take k) from e] at this
  rw [show (l.take k).length = k by rw [List.length_take]; omega]
  exact this
set_option maxRecDepth 100000 in
set_option maxHeartbeats 8000000 in
theorem MendKeeps_c (b : List Int) (hb : inB b) (hn : b.length ≤ 140737488351232) (w : Int) (hw : 0 ≤ w ∧ w < 256) (c : Int) (hc : 0 ≤ c ∧ c < 256) : ACall Tryd.prog 5 [.sl b.length (u8s b), .int .u8 w, .int .u8 c] (.bool true) none := by
  refine acall_intro none Tryd.func5 rfl (by kernel_rfl) (by simp [Tryd.f5]) ?_
  by_cases h1 : 3000 < b.length
  · have h1' : (3000 : Int) < (b.length : Int) := by omega
    refine ex_run 30 ?_
    simp (maxSteps := 200000) only [Tryd.f5, h1', push_cast, List.getD_cons_zero, List.getD_cons_succ, List.take_succ_cons, List.take_zero, List.drop_succ_cons, Nat.reduceLT, Nat.reduceLeDiff, Nat.reduceEqDiff, Nat.reduceAdd, Nat.reduceMul, Nat.reduceSub, Int.reduceToNat, Int.reduceLE, Int.reduceLT, Int.reduceEq, Int.reduceAdd, ↓reduceIte, decide_true, decide_false, and_self]
    refine call_intro answers23_c (fun h => by cases h) ?_
    simp (maxSteps := 200000) only [push_cast, List.getD_cons_zero, List.getD_cons_succ, List.take_succ_cons, List.take_zero, List.drop_succ_cons, Nat.reduceLT, Nat.reduceLeDiff, Nat.reduceEqDiff, Nat.reduceAdd, Nat.reduceMul, Nat.reduceSub, Int.reduceToNat, Int.reduceLE, Int.reduceLT, Int.reduceEq, Int.reduceAdd, ↓reduceIte, decide_true, decide_false, and_self]
    exact ⟨_, _, rfl, rfl, .refl _, rfl⟩
  · have h1' : ¬ (3000 : Int) < (b.length : Int) := by omega
    have hP := rPParse_c b (by omega) hb
    refine ex_run 60 ?_
    simp (maxSteps := 200000) only [Tryd.f5, h1', push_cast, List.getD_cons_zero, List.getD_cons_succ, List.take_succ_cons, List.take_zero, List.drop_succ_cons, Nat.reduceLT, Nat.reduceLeDiff, Nat.reduceEqDiff, Nat.reduceAdd, Nat.reduceMul, Nat.reduceSub, Int.reduceToNat, Int.reduceLE, Int.reduceLT, Int.reduceEq, Int.reduceAdd, ↓reduceIte, decide_true, decide_false, and_self]
    refine call_intro hP (fun h => by cases h) ?_
    cases hp : rparse b with
    | inl y =>
      obtain ⟨e, a⟩ := y
      obtain ⟨he, ha1, ha2⟩ := rparse_inl hp
      simp (maxSteps := 200000) only [rres, rCells, zeroR, rowCells, List.flatMap_nil, List.length_nil, flt, he, push_cast, List.getD_cons_zero, List.getD_cons_succ, List.take_succ_cons, List.take_zero, List.drop_succ_cons, Nat.reduceLT, Nat.reduceLeDiff, Nat.reduceEqDiff, Nat.reduceAdd, Nat.reduceMul, Nat.reduceSub, Int.reduceToNat, Int.reduceLE, Int.reduceLT, Int.reduceEq, Int.reduceAdd, ↓reduceIte, decide_true, decide_false, and_self]
      refine call_intro answers23_c (fun h => by cases h) ?_
      simp (maxSteps := 200000) only [push_cast, List.getD_cons_zero, List.getD_cons_succ, List.take_succ_cons, List.take_zero, List.drop_succ_cons, Nat.reduceLT, Nat.reduceLeDiff, Nat.reduceEqDiff, Nat.reduceAdd, Nat.reduceMul, Nat.reduceSub, Int.reduceToNat, Int.reduceLE, Int.reduceLT, Int.reduceEq, Int.reduceAdd, ↓reduceIte, decide_true, decide_false, and_self]
      exact ⟨_, _, rfl, rfl, .refl _, rfl⟩
    | inr r =>
      have hRP := rparse_inr hp hb
      have hpt := rparts hb hp
      have hbl := hpt.blen
      have hrc : closedL (rowCells r.fields) = true := rowCells_closed _
      have hrl := rowCells_length r.fields
      by_cases h0 : r.fields.length = 0
      · have h0' : (r.fields.length : Int) = 0 := by omega
        simp (maxSteps := 200000) only [rres, rCells, hrc, flt, h0', h0, push_cast, List.getD_cons_zero, List.getD_cons_succ, List.take_succ_cons, List.take_zero, List.drop_succ_cons, Nat.reduceLT, Nat.reduceLeDiff, Nat.reduceEqDiff, Nat.reduceAdd, Nat.reduceMul, Nat.reduceSub, Int.reduceToNat, Int.reduceLE, Int.reduceLT, Int.reduceEq, Int.reduceAdd, ↓reduceIte, decide_true, decide_false, and_self]
        refine call_intro answers23_c (fun h => by cases h) ?_
        simp (maxSteps := 200000) only [hrc, push_cast, List.getD_cons_zero, List.getD_cons_succ, List.take_succ_cons, List.take_zero, List.drop_succ_cons, Nat.reduceLT, Nat.reduceLeDiff, Nat.reduceEqDiff, Nat.reduceAdd, Nat.reduceMul, Nat.reduceSub, Int.reduceToNat, Int.reduceLE, Int.reduceLT, Int.reduceEq, Int.reduceAdd, ↓reduceIte, decide_true, decide_false, and_self]
        exact ⟨_, _, rfl, rfl, .refl _, rfl⟩
      · have h0' : ¬ (r.fields.length : Int) = 0 := by omega
        have hne0 : r.fields ≠ [] := fun e => h0 (by rw [e]; rfl)
        simp (maxSteps := 200000) only [rres, rCells, hrc, flt, h0', push_cast, List.getD_cons_zero, List.getD_cons_succ, List.take_succ_cons, List.take_zero, List.drop_succ_cons, Nat.reduceLT, Nat.reduceLeDiff, Nat.reduceEqDiff, Nat.reduceAdd, Nat.reduceMul, Nat.reduceSub, Int.reduceToNat, Int.reduceLE, Int.reduceLT, Int.reduceEq, Int.reduceAdd, ↓reduceIte, decide_true, decide_false, and_self]
        refine run_keep (l' := [(0, .sl b.length (u8s b)), (1, .int .u8 w), (2, .int .u8 c), (7, .addr 7 9 0), (9, .int .i64 0)]) (t' := [(7, ⟨9, 1, [.str r.lead, .sl r.fields.length (rowCells r.fields)]⟩)]) (nx' := _) ⟨.refl _, .refl _, .refl _, .refl _, .refl _, trivial⟩ ⟨⟨_, rfl, rfl, rfl, SubL.refl _⟩, trivial⟩ (Nat.le_refl _) ?_
        refine run_loop (fun n s => ∃ (i nx : Nat), i ≤ r.fields.length ∧ (∀ j (h : j < r.fields.length), j < i → fbytes r.fields[j] ≠ []) ∧ n = r.fields.length - i ∧ s = mkS [(0, .sl b.length (u8s b)), (1, .int .u8 w), (2, .int .u8 c), (7, .addr 7 9 0), (9, .int .i64 i)] [(7, ⟨9, 1, [.str r.lead, .sl r.fields.length (rowCells r.fields)]⟩)] nx) _ ⟨0, _, Nat.zero_le _, (fun j h hj => by omega), rfl, rfl⟩ ?_
        rintro n s ⟨i, nx, hi, hne, rfl, rfl⟩
        by_cases h : i < r.fields.length
        · have h' : (i : Int) < (r.fields.length : Int) := by omega
          have hcn := hRP.cnt
          have hw1 : IntKind.i64.wrap ((i : Int) + 1) = ((i + 1 : Nat) : Int) := by rw [wrap_i64 (by omega)]; omega
          have hrow := rowCells_row r.fields i h
          have l0 : i * 5 + 5 ≤ r.fields.length * 5 := by omega
          have hpos : 0 < r.fields.length * 5 := by omega
          obtain ⟨g1, g2, g3, g4, g5⟩ := hRP.fld _ (List.getElem_mem h)
          have hf2 : (fbytes r.fields[i]).length ≤ (dataOf r.fields).length := by
            have : fdata r.fields[i] ∈ r.fields.map fdata := List.mem_map.2 ⟨_, List.getElem_mem h, rfl⟩
            have h1 : (fdata r.fields[i]).length ≤ (dataOf r.fields).length := by
              unfold dataOf
              rw [List.flatMap_def]
              exact (List.sublist_flatten_of_mem this).length_le
            unfold fdata at h1
            rw [List.length_append] at h1
            omega
          have hB := rbytes_c r.fields[i] (by have := goodTag_len (goodF_tag g1); omega) (by omega)
          have hfc := fCells_closed r.fields[i]
          have hcl := u8s_closed (fbytes r.fields[i])
          have hcm : List.map cl (fCells r.fields[i]) = fCells r.fields[i] := rfl
          refine ex_run 20 ?_
          simp (maxSteps := 200000) only [h, h', hw1, hrow, l0, hpos, hrl, hfc, hcm, push_cast, List.getD_cons_zero, List.getD_cons_succ, List.take_succ_cons, List.take_zero, List.drop_succ_cons, Nat.reduceLT, Nat.reduceLeDiff, Nat.reduceEqDiff, Nat.reduceAdd, Nat.reduceMul, Nat.reduceSub, Int.reduceToNat, Int.reduceLE, Int.reduceLT, Int.reduceEq, Int.reduceAdd, ↓reduceIte, decide_true, decide_false, and_self]
          refine call_intro hB (fun _ => ⟨rfl, fun T0 e => by cases e; exact u8s_noSl _⟩) ?_
          by_cases hz : (fbytes r.fields[i]).length = 0
          · have hz' : ((fbytes r.fields[i]).length : Int) = 0 := by omega
            simp (maxSteps := 200000) only [hcl, hz', hz, push_cast, List.getD_cons_zero, List.getD_cons_succ, List.take_succ_cons, List.take_zero, List.drop_succ_cons, Nat.reduceLT, Nat.reduceLeDiff, Nat.reduceEqDiff, Nat.reduceAdd, Nat.reduceMul, Nat.reduceSub, Int.reduceToNat, Int.reduceLE, Int.reduceLT, Int.reduceEq, Int.reduceAdd, ↓reduceIte, decide_true, decide_false, and_self]
            refine call_intro answers23_c (fun h => by cases h) ?_
            simp (maxSteps := 200000) only [push_cast, List.getD_cons_zero, List.getD_cons_succ, List.take_succ_cons, List.take_zero, List.drop_succ_cons, Nat.reduceLT, Nat.reduceLeDiff, Nat.reduceEqDiff, Nat.reduceAdd, Nat.reduceMul, Nat.reduceSub, Int.reduceToNat, Int.reduceLE, Int.reduceLT, Int.reduceEq, Int.reduceAdd, ↓reduceIte, decide_true, decide_false, and_self]
            exact ⟨_, [.bool true], rfl, by simp [outA, outV, outC, mkS_env, mkS_tk, lkF, lkG, AV.closed], .refl _, rfl⟩
          · have hz' : ¬ ((fbytes r.fields[i]).length : Int) = 0 := by omega
            simp (maxSteps := 200000) only [hcl, hz', hw1, push_cast, List.getD_cons_zero, List.getD_cons_succ, List.take_succ_cons, List.take_zero, List.drop_succ_cons, Nat.reduceLT, Nat.reduceLeDiff, Nat.reduceEqDiff, Nat.reduceAdd, Nat.reduceMul, Nat.reduceSub, Int.reduceToNat, Int.reduceLE, Int.reduceLT, Int.reduceEq, Int.reduceAdd, ↓reduceIte, decide_true, decide_false, and_self]
            refine run_back_le (le_mk (l' := [(0, .sl b.length (u8s b)), (1, .int .u8 w), (2, .int .u8 c), (7, .addr 7 9 0), (9, .int .i64 ((i + 1 : Nat) : Int))]) (t' := [(7, ⟨9, 1, [.str r.lead, .sl r.fields.length (rowCells r.fields)]⟩)]) (nx' := _) ⟨.refl _, .refl _, .refl _, .refl _, .of_eq (congrArg (AV.int .i64) (by omega)), trivial⟩ ⟨⟨_, rfl, rfl, rfl, SubL.refl _⟩, trivial⟩ (Nat.le_refl _)) ?_
            refine ⟨r.fields.length - (i + 1), by omega, i + 1, _, by omega, fun j hj hji => ?_, rfl, rfl⟩
            by_cases e : j = i
            · subst e; intro e; rw [e] at hz; exact hz rfl
            · exact hne j hj (by omega)
        · have h' : ¬ (i : Int) < (r.fields.length : Int) := by omega
          have hnea : ∀ f ∈ r.fields, fbytes f ≠ [] := fun f hf => by
            obtain ⟨j, hj, rfl⟩ := List.mem_iff_getElem.1 hf
            exact hne j hj (by omega)
          refine ex_run 14 ?_
          simp (maxSteps := 200000) only [h', push_cast, List.getD_cons_zero, List.getD_cons_succ, List.take_succ_cons, List.take_zero, List.drop_succ_cons, Nat.reduceLT, Nat.reduceLeDiff, Nat.reduceEqDiff, Nat.reduceAdd, Nat.reduceMul, Nat.reduceSub, Int.reduceToNat, Int.reduceLE, Int.reduceLT, Int.reduceEq, Int.reduceAdd, ↓reduceIte, decide_true, decide_false, and_self]
          have hb0 : 0 < b.length := by omega
          have hmd : w.tmod 4 = 0 ∨ w.tmod 4 = 1 ∨ w.tmod 4 = 2 ∨ w.tmod 4 = 3 := by
            rw [Int.tmod_eq_emod_of_nonneg hw.1]; omega
          refine ⟨⟨by omega, by omega⟩, by decide, fun c0 => ?_, fun c0 => ?_⟩
          · have w1 : IntKind.i64.wrap ((b.length : Int) - 1) = ((b.length - 1 : Nat) : Int) := by rw [wrap_i64 (by omega)]; omega
            have e1 : ((b.length - 1 : Nat) : Int) ≤ (b.length : Int) := by omega
            refine ex_run 1 ?_
            simp (maxSteps := 200000) only [w1, e1, push_cast, List.getD_cons_zero, List.getD_cons_succ, List.take_succ_cons, List.take_zero, List.drop_succ_cons, Nat.reduceLT, Nat.reduceLeDiff, Nat.reduceEqDiff, Nat.reduceAdd, Nat.reduceMul, Nat.reduceSub, Int.reduceToNat, Int.reduceLE, Int.reduceLT, Int.reduceEq, Int.reduceAdd, ↓reduceIte, decide_true, decide_false, and_self]
            have hM := Mend_c (b.take (b.length - 1)) (fun x hx => hb x (List.mem_of_mem_take hx)) (by rw [List.length_take]; omega)
            rw [keep_less hb hp hnea] at hM
            have hS := same_c b b (by omega)
            rw [beq_self_eq_true] at hS
            have hcl := u8s_closed b
            refine run_keep (l' := [(0, .sl b.length (u8s b)), (10, .own 46 _ 0 (b.length - 1))]) (t' := [(46, ⟨_, 1, u8s (b)⟩)]) (nx' := _) ⟨.refl _, .refl _, trivial⟩ ⟨⟨_, rfl, rfl, rfl, SubL.refl _⟩, trivial⟩ (Nat.le_refl _) ?_
            refine Go.Eng.run_freeze (l' := [(0, .sl b.length (u8s b)), (10, .sl (b.take (b.length - 1)).length (u8s (b.take (b.length - 1))))]) (tl' := []) 46 ⟨_, 1, u8s (b)⟩ rfl ⟨.keep _, frz_ownT _ _ _ _ (by omega), trivial⟩ trivial ?_
            refine ex_run 60 ?_
            simp (maxSteps := 200000) only [push_cast, List.getD_cons_zero, List.getD_cons_succ, List.take_succ_cons, List.take_zero, List.drop_succ_cons, Nat.reduceLT, Nat.reduceLeDiff, Nat.reduceEqDiff, Nat.reduceAdd, Nat.reduceMul, Nat.reduceSub, Int.reduceToNat, Int.reduceLE, Int.reduceLT, Int.reduceEq, Int.reduceAdd, ↓reduceIte, decide_true, decide_false, and_self]
            refine call_intro answers23_c (fun h => by cases h) ?_
            simp (maxSteps := 200000) only [push_cast, List.getD_cons_zero, List.getD_cons_succ, List.take_succ_cons, List.take_zero, List.drop_succ_cons, Nat.reduceLT, Nat.reduceLeDiff, Nat.reduceEqDiff, Nat.reduceAdd, Nat.reduceMul, Nat.reduceSub, Int.reduceToNat, Int.reduceLE, Int.reduceLT, Int.reduceEq, Int.reduceAdd, ↓reduceIte, decide_true, decide_false, and_self]
            refine call_intro hM (fun h => by cases h) ?_
            simp (maxSteps := 200000) only [hcl, push_cast, List.getD_cons_zero, List.getD_cons_succ, List.take_succ_cons, List.take_zero, List.drop_succ_cons, Nat.reduceLT, Nat.reduceLeDiff, Nat.reduceEqDiff, Nat.reduceAdd, Nat.reduceMul, Nat.reduceSub, Int.reduceToNat, Int.reduceLE, Int.reduceLT, Int.reduceEq, Int.reduceAdd, ↓reduceIte, decide_true, decide_false, and_self]
            refine call_intro hS (fun h => by cases h) ?_
            simp (maxSteps := 200000) only [push_cast, List.getD_cons_zero, List.getD_cons_succ, List.take_succ_cons, List.take_zero, List.drop_succ_cons, Nat.reduceLT, Nat.reduceLeDiff, Nat.reduceEqDiff, Nat.reduceAdd, Nat.reduceMul, Nat.reduceSub, Int.reduceToNat, Int.reduceLE, Int.reduceLT, Int.reduceEq, Int.reduceAdd, ↓reduceIte, decide_true, decide_false, and_self]
            exact ⟨_, [.bool true], rfl, by simp [outA, outV, outC, mkS_env, mkS_tk, lkF, lkG, AV.closed], .refl _, rfl⟩
          · have c1' : w.tmod 4 = 1 ∨ w.tmod 4 = 2 ∨ w.tmod 4 = 3 := by omega
            have hu : u8s b ++ [.int .u8 c] = u8s (b ++ [c]) := by simp [u8s]
            have hl1 : (b ++ [c]).length = b.length + 1 := by simp
            rcases c1' with c1 | c1 | c1
            · refine ex_run 4 ?_
              simp (maxSteps := 200000) only [c1, hu, u8s_length, push_cast, List.getD_cons_zero, List.getD_cons_succ, List.take_succ_cons, List.take_zero, List.drop_succ_cons, Nat.reduceLT, Nat.reduceLeDiff, Nat.reduceEqDiff, Nat.reduceAdd, Nat.reduceMul, Nat.reduceSub, Int.reduceToNat, Int.reduceLE, Int.reduceLT, Int.reduceEq, Int.reduceAdd, ↓reduceIte, decide_true, decide_false, and_self]
              repeat (first | (refine ⟨by omega, ?_⟩) | (refine ⟨⟨by omega, by omega⟩, ?_⟩))
              rw [← hl1]
              have hM := Mend_c (b ++ [c]) (fun x hx => by rcases List.mem_append.1 hx with hx | hx; exact hb x hx; rw [List.mem_singleton] at hx; subst hx; exact hc) (by omega)
              rw [keep_more hb hp hnea c] at hM
              have hS := same_c b b (by omega)
              rw [beq_self_eq_true] at hS
              have hcl := u8s_closed b
              refine run_keep (l' := [(0, .sl b.length (u8s b)), (10, .own 46 _ 0 (b ++ [c]).length)]) (t' := [(46, ⟨_, 1, u8s (b ++ [c])⟩)]) (nx' := _) ⟨.refl _, .refl _, trivial⟩ ⟨⟨_, rfl, rfl, rfl, SubL.refl _⟩, trivial⟩ (Nat.le_refl _) ?_
              refine Go.Eng.run_freeze (l' := [(0, .sl b.length (u8s b)), (10, .sl (b ++ [c]).length (u8s (b ++ [c])))]) (tl' := []) 46 ⟨_, 1, u8s (b ++ [c])⟩ rfl ⟨.keep _, frz_own _ _ _, trivial⟩ trivial ?_
              refine ex_run 60 ?_
              simp (maxSteps := 200000) only [push_cast, List.getD_cons_zero, List.getD_cons_succ, List.take_succ_cons, List.take_zero, List.drop_succ_cons, Nat.reduceLT, Nat.reduceLeDiff, Nat.reduceEqDiff, Nat.reduceAdd, Nat.reduceMul, Nat.reduceSub, Int.reduceToNat, Int.reduceLE, Int.reduceLT, Int.reduceEq, Int.reduceAdd, ↓reduceIte, decide_true, decide_false, and_self]
              refine call_intro answers23_c (fun h => by cases h) ?_
              simp (maxSteps := 200000) only [push_cast, List.getD_cons_zero, List.getD_cons_succ, List.take_succ_cons, List.take_zero, List.drop_succ_cons, Nat.reduceLT, Nat.reduceLeDiff, Nat.reduceEqDiff, Nat.reduceAdd, Nat.reduceMul, Nat.reduceSub, Int.reduceToNat, Int.reduceLE, Int.reduceLT, Int.reduceEq, Int.reduceAdd, ↓reduceIte, decide_true, decide_false, and_self]
              refine call_intro hM (fun h => by cases h) ?_
              simp (maxSteps := 200000) only [hcl, push_cast, List.getD_cons_zero, List.getD_cons_succ, List.take_succ_cons, List.take_zero, List.drop_succ_cons, Nat.reduceLT, Nat.reduceLeDiff, Nat.reduceEqDiff, Nat.reduceAdd, Nat.reduceMul, Nat.reduceSub, Int.reduceToNat, Int.reduceLE, Int.reduceLT, Int.reduceEq, Int.reduceAdd, ↓reduceIte, decide_true, decide_false, and_self]
              refine call_intro hS (fun h => by cases h) ?_
              simp (maxSteps := 200000) only [push_cast, List.getD_cons_zero, List.getD_cons_succ, List.take_succ_cons, List.take_zero, List.drop_succ_cons, Nat.reduceLT, Nat.reduceLeDiff, Nat.reduceEqDiff, Nat.reduceAdd, Nat.reduceMul, Nat.reduceSub, Int.reduceToNat, Int.reduceLE, Int.reduceLT, Int.reduceEq, Int.reduceAdd, ↓reduceIte, decide_true, decide_false, and_self]
              exact ⟨_, [.bool true], rfl, by simp [outA, outV, outC, mkS_env, mkS_tk, lkF, lkG, AV.closed], .refl _, rfl⟩
            · obtain ⟨j, hj, hj5⟩ : ∃ j : Nat, c.tmod 5 = (j : Int) ∧ j < 5 := by
                rw [Int.tmod_eq_emod_of_nonneg hc.1]
                exact ⟨(c % 5).toNat, by omega, by omega⟩
              have wc : IntKind.i64.wrap c = c := wrap_i64 (by omega)
              have hjb : (j : Int) < (b.length : Int) := by omega
              refine ex_run 7 ?_
              simp (maxSteps := 200000) only [c1, wc, hj, hjb, u8s_length, push_cast, List.getD_cons_zero, List.getD_cons_succ, List.take_succ_cons, List.take_zero, List.drop_succ_cons, Nat.reduceLT, Nat.reduceLeDiff, Nat.reduceEqDiff, Nat.reduceAdd, Nat.reduceMul, Nat.reduceSub, Int.reduceToNat, Int.reduceLE, Int.reduceLT, Int.reduceEq, Int.reduceAdd, ↓reduceIte, decide_true, decide_false, and_self]
              repeat (first | (refine ⟨by omega, ?_⟩) | (refine ⟨⟨by omega, by omega⟩, ?_⟩))
              rw [u8s_setK]
              have hl2 : (b.set j 55).length = b.length := by simp
              have hM := Mend_c (b.set j 55) (inB_set hb j (by omega)) (by omega)
              rw [keep_num hb hp hnea j hj5] at hM
              have hS := same_c b b (by omega)
              rw [beq_self_eq_true] at hS
              have hcl := u8s_closed b
              refine run_keep (l' := [(0, .sl b.length (u8s b)), (10, .own 46 _ 0 b.length)]) (t' := [(46, ⟨_, 1, u8s (b.set j 55)⟩)]) (nx' := _) ⟨.refl _, .refl _, trivial⟩ ⟨⟨_, rfl, rfl, rfl, SubL.refl _⟩, trivial⟩ (Nat.le_refl _) ?_
              refine Go.Eng.run_freeze (l' := [(0, .sl b.length (u8s b)), (10, .sl (b.set j 55).length (u8s (b.set j 55)))]) (tl' := []) 46 ⟨_, 1, u8s (b.set j 55)⟩ rfl ⟨.keep _, (frz_ownE _ _ _ _ hl2), trivial⟩ trivial ?_
              refine ex_run 60 ?_
              simp (maxSteps := 200000) only [push_cast, List.getD_cons_zero, List.getD_cons_succ, List.take_succ_cons, List.take_zero, List.drop_succ_cons, Nat.reduceLT, Nat.reduceLeDiff, Nat.reduceEqDiff, Nat.reduceAdd, Nat.reduceMul, Nat.reduceSub, Int.reduceToNat, Int.reduceLE, Int.reduceLT, Int.reduceEq, Int.reduceAdd, ↓reduceIte, decide_true, decide_false, and_self]
              refine call_intro answers23_c (fun h => by cases h) ?_
              simp (maxSteps := 200000) only [push_cast, List.getD_cons_zero, List.getD_cons_succ, List.take_succ_cons, List.take_zero, List.drop_succ_cons, Nat.reduceLT, Nat.reduceLeDiff, Nat.reduceEqDiff, Nat.reduceAdd, Nat.reduceMul, Nat.reduceSub, Int.reduceToNat, Int.reduceLE, Int.reduceLT, Int.reduceEq, Int.reduceAdd, ↓reduceIte, decide_true, decide_false, and_self]
              refine call_intro hM (fun h => by cases h) ?_
              simp (maxSteps := 200000) only [hcl, push_cast, List.getD_cons_zero, List.getD_cons_succ, List.take_succ_cons, List.take_zero, List.drop_succ_cons, Nat.reduceLT, Nat.reduceLeDiff, Nat.reduceEqDiff, Nat.reduceAdd, Nat.reduceMul, Nat.reduceSub, Int.reduceToNat, Int.reduceLE, Int.reduceLT, Int.reduceEq, Int.reduceAdd, ↓reduceIte, decide_true, decide_false, and_self]
              refine call_intro hS (fun h => by cases h) ?_
              simp (maxSteps := 200000) only [push_cast, List.getD_cons_zero, List.getD_cons_succ, List.take_succ_cons, List.take_zero, List.drop_succ_cons, Nat.reduceLT, Nat.reduceLeDiff, Nat.reduceEqDiff, Nat.reduceAdd, Nat.reduceMul, Nat.reduceSub, Int.reduceToNat, Int.reduceLE, Int.reduceLT, Int.reduceEq, Int.reduceAdd, ↓reduceIte, decide_true, decide_false, and_self]
              exact ⟨_, [.bool true], rfl, by simp [outA, outV, outC, mkS_env, mkS_tk, lkF, lkG, AV.closed], .refl _, rfl⟩
            · have h27 : (27 : Int) < (b.length : Int) := by omega
              refine ex_run 7 ?_
              simp (maxSteps := 200000) only [c1, h27, u8s_length, push_cast, List.getD_cons_zero, List.getD_cons_succ, List.take_succ_cons, List.take_zero, List.drop_succ_cons, Nat.reduceLT, Nat.reduceLeDiff, Nat.reduceEqDiff, Nat.reduceAdd, Nat.reduceMul, Nat.reduceSub, Int.reduceToNat, Int.reduceLE, Int.reduceLT, Int.reduceEq, Int.reduceAdd, ↓reduceIte, decide_true, decide_false, and_self]
              repeat (first | (refine ⟨by omega, ?_⟩) | (refine ⟨⟨by omega, by omega⟩, ?_⟩))
              rw [u8s_setK]
              have hl2 : (b.set 27 122).length = b.length := by simp
              have hM := Mend_c (b.set 27 122) (inB_set hb 27 (by omega)) (by omega)
              rw [keep_dir hb hp hnea hne0] at hM
              have hS := same_c b b (by omega)
              rw [beq_self_eq_true] at hS
              have hcl := u8s_closed b
              refine run_keep (l' := [(0, .sl b.length (u8s b)), (10, .own 46 _ 0 b.length)]) (t' := [(46, ⟨_, 1, u8s (b.set 27 122)⟩)]) (nx' := _) ⟨.refl _, .refl _, trivial⟩ ⟨⟨_, rfl, rfl, rfl, SubL.refl _⟩, trivial⟩ (Nat.le_refl _) ?_
              refine Go.Eng.run_freeze (l' := [(0, .sl b.length (u8s b)), (10, .sl (b.set 27 122).length (u8s (b.set 27 122)))]) (tl' := []) 46 ⟨_, 1, u8s (b.set 27 122)⟩ rfl ⟨.keep _, (frz_ownE _ _ _ _ hl2), trivial⟩ trivial ?_
              refine ex_run 60 ?_
              simp (maxSteps := 200000) only [push_cast, List.getD_cons_zero, List.getD_cons_succ, List.take_succ_cons, List.take_zero, List.drop_succ_cons, Nat.reduceLT, Nat.reduceLeDiff, Nat.reduceEqDiff, Nat.reduceAdd, Nat.reduceMul, Nat.reduceSub, Int.reduceToNat, Int.reduceLE, Int.reduceLT, Int.reduceEq, Int.reduceAdd, ↓reduceIte, decide_true, decide_false, and_self]
              refine call_intro answers23_c (fun h => by cases h) ?_
              simp (maxSteps := 200000) only [push_cast, List.getD_cons_zero, List.getD_cons_succ, List.take_succ_cons, List.take_zero, List.drop_succ_cons, Nat.reduceLT, Nat.reduceLeDiff, Nat.reduceEqDiff, Nat.reduceAdd, Nat.reduceMul, Nat.reduceSub, Int.reduceToNat, Int.reduceLE, Int.reduceLT, Int.reduceEq, Int.reduceAdd, ↓reduceIte, decide_true, decide_false, and_self]
              refine call_intro hM (fun h => by cases h) ?_
              simp (maxSteps := 200000) only [hcl, push_cast, List.getD_cons_zero, List.getD_cons_succ, List.take_succ_cons, List.take_zero, List.drop_succ_cons, Nat.reduceLT, Nat.reduceLeDiff, Nat.reduceEqDiff, Nat.reduceAdd, Nat.reduceMul, Nat.reduceSub, Int.reduceToNat, Int.reduceLE, Int.reduceLT, Int.reduceEq, Int.reduceAdd, ↓reduceIte, decide_true, decide_false, and_self]
              refine call_intro hS (fun h => by cases h) ?_
              simp (maxSteps := 200000) only [push_cast, List.getD_cons_zero, List.getD_cons_succ, List.take_succ_cons, List.take_zero, List.drop_succ_cons, Nat.reduceLT, Nat.reduceLeDiff, Nat.reduceEqDiff, Nat.reduceAdd, Nat.reduceMul, Nat.reduceSub, Int.reduceToNat, Int.reduceLE, Int.reduceLT, Int.reduceEq, Int.reduceAdd, ↓reduceIte, decide_true, decide_false, and_self]
              exact ⟨_, [.bool true], rfl, by simp [outA, outV, outC, mkS_env, mkS_tk, lkF, lkG, AV.closed], .refl _, rfl⟩
end Go.Proofs.YteapibifebnboaaDoor
