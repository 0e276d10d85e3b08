/- mend.data -/
import Derived.Test.YteapibifebnboaaDoorMndH
set_option linter.unusedVariables false
set_option linter.unusedSimpArgs false
namespace Go.Proofs.YteapibifebnboaaDoor
open Go Go.Eng
/-- How many bytes stand ahead of the first subfield's mark. -/
def nI (b : List Int) : Nat := (b.takeWhile fun c => c ≠ 31).length
theorem nI_le (b : List Int) : nI b ≤ b.length := (List.takeWhile_sublist _).length_le
theorem nI_idx : ∀ b : List Int, (idxI b 31 = -1 ∧ nI b = b.length) ∨ (idxI b 31 = (nI b : Int) ∧ nI b < b.length)
  | [] => .inl ⟨rfl, rfl⟩
  | x :: t => by
    by_cases e : x = 31
    · right
      have : nI (x :: t) = 0 := by unfold nI; rw [List.takeWhile_cons_of_neg (by simp [e])]; rfl
      exact ⟨by rw [this, idxI, if_pos e]; rfl, by rw [this]; simp⟩
    · have : nI (x :: t) = nI t + 1 := by unfold nI; rw [List.takeWhile_cons_of_pos (by simpa using e)]; rfl
      rw [this, List.length_cons, idxI, if_neg e]
      rcases nI_idx t with ⟨h1, h2⟩ | ⟨h1, h2⟩
      · left; exact ⟨if_pos h1, by omega⟩
      · right; rw [h1, if_neg (by omega)]; exact ⟨rfl, by omega⟩
/-- How many bytes the indicators are taken from. -/
def mI (b : List Int) : Nat := min (nI b) 2
def indM (b : List Int) (k : Nat) : Int := if k < mI b ∧ indB (b.getD k 0) = true then b.getD k 0 else 32
/-- Subfields, as many bytes of them as there is room for. -/
def capS : Nat → List SubV → List SubV
  | _, [] => []
  | r, s :: t => if r < 2 then [] else (s.1, s.2.take (r - 2)) :: capS (r - 2 - (s.2.take (r - 2)).length) t
def datM (tag b : List Int) : FV := ⟨tag, [], indM b 0, indM b 1, capS 9996 (subsM (b.drop (mI b)))⟩
theorem splitL_mem {c : Int} {l p : List Int} (h : p ∈ splitL c l) : p.length ≤ l.length := by
  have hs := splitL_sum (c := c) l
  have : ∀ T : List (List Int), p ∈ T → p.length ≤ (T.map (·.length)).sum := by
    intro T
    induction T with
    | nil => intro h; cases h
    | cons q T ih =>
      intro h
      rw [List.map_cons, List.sum_cons]
      rcases List.mem_cons.1 h with rfl | h
      · omega
      · have := ih h; omega
  have := this _ h
  omega
theorem subsM_from {b : List Int} {s : SubV} (h : s ∈ subsM b) : ∃ p ∈ splitL 31 b, (s = (97, p) ∧ p ≠ []) ∨ ∃ x t, p = x :: t ∧ codeB x = true ∧ s = (x, t) := by
  unfold subsM at h
  rcases List.mem_append.1 h with h | h
  · cases hT : splitL 31 b with
    | nil => exact absurd hT (splitL_ne 31 b)
    | cons p0 ps =>
      rw [hT] at h
      simp only [List.headD_cons] at h
      unfold subHd at h
      by_cases h0 : p0 = []
      · rw [if_pos h0] at h; cases h
      · rw [if_neg h0] at h
        simp at h; subst h
        exact ⟨p0, List.mem_cons_self .., .inl ⟨rfl, h0⟩⟩
  · obtain ⟨p, hp, hs⟩ := List.mem_flatMap.1 h
    refine ⟨p, List.mem_of_mem_tail hp, ?_⟩
    unfold subOf at hs
    split at hs
    · cases hs
    · split at hs
      · rename_i hq; simp at hs; exact .inr ⟨_, _, rfl, hq, hs⟩
      · simp at hs; exact .inl ⟨hs, by simp⟩
theorem subsM_mem {b : List Int} {s : SubV} (h : s ∈ subsM b) : s.2.length ≤ b.length := by
  obtain ⟨p, hp, h⟩ := subsM_from h
  have := splitL_mem hp
  rcases h with ⟨rfl, _⟩ | ⟨x, t, rfl, _, rfl⟩
  · exact this
  · rw [List.length_cons] at this
    show t.length ≤ _
    omega
theorem subsM_len (b : List Int) : (subsM b).length ≤ b.length + 1 := by
  unfold subsM
  have h1 := subHd_len ((splitL 31 b).headD [])
  have h2 := flat_len (splitL 31 b).tail
  have h3 := splitL_len 31 b
  have h4 : b.count 31 ≤ b.length := List.count_le_length
  rw [List.length_tail] at h2
  rw [List.length_append]; omega
def indTo (b : List Int) (i k : Nat) : Int := if k < i then indM b k else 32
theorem indTo_ge (b : List Int) (k : Nat) : indTo b (mI b) k = indM b k := by
  unfold indTo
  by_cases h : k < mI b
  · rw [if_pos h]
  · rw [if_neg h]; unfold indM; rw [if_neg (fun e => h e.1)]
set_option maxRecDepth 100000 in
set_option maxHeartbeats 4000000 in
theorem data_c (tag b : List Int) (ht : tag.length ≤ 9223372036854775807) (hl : inB b) (hn : b.length ≤ 1099511627776) :
    ACall Tryd.prog 22 [.str tag, .sl b.length (u8s b)] (.agg (fCells (datM tag b))) none := by
  have hIdx := IndexByte_c b 31 hl (by decide)
  have hnI := nI_idx b
  have hnl := nI_le b
  have hmI : mI b = min (nI b) 2 := rfl
  refine acall_intro none Tryd.func22 rfl (by kernel_rfl) (by simp [Tryd.f22]) ?_
  refine ex_run 6 ?_
  simp (maxSteps := 200000) only [Tryd.f22, push_cast, List.getD_cons_zero, List.getD_cons_succ, List.take_succ_cons, List.take_zero, List.drop_succ_cons, Nat.reduceLT, Nat.reduceLeDiff, Nat.reduceEqDiff, Nat.reduceAdd, Nat.reduceMul, Nat.reduceSub, Int.reduceToNat, Int.reduceLE, Int.reduceLT, Int.reduceEq, Int.reduceAdd, ↓reduceIte, decide_true, decide_false, and_self]
  refine call_intro hIdx (fun h => by cases h) ?_
  simp (maxSteps := 200000) only [push_cast, List.getD_cons_zero, List.getD_cons_succ, List.take_succ_cons, List.take_zero, List.drop_succ_cons, Nat.reduceLT, Nat.reduceLeDiff, Nat.reduceEqDiff, Nat.reduceAdd, Nat.reduceMul, Nat.reduceSub, Int.reduceToNat, Int.reduceLE, Int.reduceLT, Int.reduceEq, Int.reduceAdd, ↓reduceIte, decide_true, decide_false, and_self]
  refine run_join (fun nx : Nat => mkS [(0, .str tag), (1, .sl b.length (u8s b)), (4, .addr 4 0 0), (5, .addr 5 4 0), (6, .int .i64 (nI b))]
    [(4, ⟨0, 1, [.str [], .nilS, .int .u8 0, .int .u8 0, .nilS]⟩), (5, ⟨4, 1, [.str tag, .nilS, .int .u8 32, .int .u8 32, .nilS]⟩)] nx) (fun h => ?_) ?_
  · rcases hnI with ⟨h1, h2⟩ | ⟨h1, h2⟩
    · rw [h1]
      refine ex_run 5 ?_
      simp (maxSteps := 200000) only [Int.reduceNeg, Int.reduceLT, push_cast, List.getD_cons_zero, List.getD_cons_succ, List.take_succ_cons, List.take_zero, List.drop_succ_cons, Nat.reduceLT, Nat.reduceLeDiff, Nat.reduceEqDiff, Nat.reduceAdd, Nat.reduceMul, Nat.reduceSub, Int.reduceToNat, Int.reduceLE, Int.reduceLT, Int.reduceEq, Int.reduceAdd, ↓reduceIte, decide_true, decide_false, and_self]
      refine run_keep (l' := [(0, .str tag), (1, .sl b.length (u8s b)), (4, .addr 4 0 0), (5, .addr 5 4 0), (6, .int .i64 (nI b))]) (t' := [(4, ⟨0, 1, [.str [], .nilS, .int .u8 0, .int .u8 0, .nilS]⟩), (5, ⟨4, 1, [.str tag, .nilS, .int .u8 32, .int .u8 32, .nilS]⟩)]) (nx' := _) ⟨.refl _, .refl _, .refl _, .refl _, .of_eq (by rw [h2]), trivial⟩ ⟨⟨_, rfl, rfl, rfl, SubL.refl _⟩, ⟨_, rfl, rfl, rfl, SubL.refl _⟩, trivial⟩ (Nat.le_refl _) ?_
      exact h _
    · have h3 : ¬ (nI b : Int) < 0 := by omega
      rw [h1]
      refine ex_run 5 ?_
      simp (maxSteps := 200000) only [h3, push_cast, List.getD_cons_zero, List.getD_cons_succ, List.take_succ_cons, List.take_zero, List.drop_succ_cons, Nat.reduceLT, Nat.reduceLeDiff, Nat.reduceEqDiff, Nat.reduceAdd, Nat.reduceMul, Nat.reduceSub, Int.reduceToNat, Int.reduceLE, Int.reduceLT, Int.reduceEq, Int.reduceAdd, ↓reduceIte, decide_true, decide_false, and_self]
      refine run_keep (l' := [(0, .str tag), (1, .sl b.length (u8s b)), (4, .addr 4 0 0), (5, .addr 5 4 0), (6, .int .i64 (nI b))]) (t' := [(4, ⟨0, 1, [.str [], .nilS, .int .u8 0, .int .u8 0, .nilS]⟩), (5, ⟨4, 1, [.str tag, .nilS, .int .u8 32, .int .u8 32, .nilS]⟩)]) (nx' := _) ⟨.refl _, .refl _, .refl _, .refl _, .refl _, trivial⟩ ⟨⟨_, rfl, rfl, rfl, SubL.refl _⟩, ⟨_, rfl, rfl, rfl, SubL.refl _⟩, trivial⟩ (Nat.le_refl _) ?_
      exact h _
  · intro nx
    have hm2 : (if (2 : Int) < (nI b : Int) then (2 : Int) else (nI b : Int)) = (mI b : Int) := by rw [hmI]; split <;> omega
    have hml : mI b ≤ b.length := by omega
    have hm2' : mI b ≤ 2 := by omega
    generalize hm : mI b = m at *
    refine ex_run 30 ?_
    simp (maxSteps := 200000) only [hm2, push_cast, List.getD_cons_zero, List.getD_cons_succ, List.take_succ_cons, List.take_zero, List.drop_succ_cons, Nat.reduceLT, Nat.reduceLeDiff, Nat.reduceEqDiff, Nat.reduceAdd, Nat.reduceMul, Nat.reduceSub, Int.reduceToNat, Int.reduceLE, Int.reduceLT, Int.reduceEq, Int.reduceAdd, ↓reduceIte, decide_true, decide_false, and_self]
    refine ⟨hml, ?_⟩
    refine run_keep (l' := [(0, .str tag), (1, .sl b.length (u8s b)), (4, .addr 4 0 0), (5, .addr 5 4 0), (6, .int .i64 m), (25, .sl m (u8s (b.take m))), (26, .int .i64 m), (27, .int .i64 0)]) (t' := [(4, ⟨0, 1, [.str [], .nilS, .int .u8 0, .int .u8 0, .nilS]⟩), (5, ⟨4, 1, [.str tag, .nilS, .int .u8 (indTo b 0 0), .int .u8 (indTo b 0 1), .nilS]⟩)]) (nx' := _) ⟨.refl _, .refl _, .refl _, .refl _, .refl _, .refl _, .refl _, .refl _, trivial⟩ ⟨⟨_, rfl, rfl, rfl, SubL.refl _⟩, ⟨_, rfl, rfl, rfl, SubL.refl _⟩, trivial⟩ (Nat.le_refl _) ?_
    refine run_loop (fun n s => ∃ (i nx : Nat), i ≤ m ∧ n = m - i ∧ s = mkS [(0, .str tag), (1, .sl b.length (u8s b)), (4, .addr 4 0 0), (5, .addr 5 4 0), (6, .int .i64 m), (25, .sl m (u8s (b.take m))), (26, .int .i64 m), (27, .int .i64 i)] [(4, ⟨0, 1, [.str [], .nilS, .int .u8 0, .int .u8 0, .nilS]⟩), (5, ⟨4, 1, [.str tag, .nilS, .int .u8 (indTo b i 0), .int .u8 (indTo b i 1), .nilS]⟩)] nx) _ ⟨0, _, Nat.zero_le _, rfl, rfl⟩ ?_
    rintro n s ⟨i, nx, hi, rfl, rfl⟩
    by_cases h : i < m
    · have h' : (i : Int) < (m : Int) := by omega
      have hmt : (b.take m).length = m := by rw [List.length_take]; omega
      have hg : (u8s (b.take m)).getD i .dead = .int .u8 (b.getD i 0) := by
        rw [u8s_getD _ i (by omega)]
        rw [List.getD_eq_getElem?_getD, List.getD_eq_getElem?_getD, List.getElem?_take_of_lt h]
      have hs2 : indM b i = if indB (b.getD i 0) = true then b.getD i 0 else 32 := by
        unfold indM; rw [hm]
        by_cases hq : indB (b.getD i 0) = true
        · rw [if_pos ⟨h, hq⟩, if_pos hq]
        · rw [if_neg (fun e => hq e.2), if_neg hq]
      have hl8 : (u8s (b.take m)).length = m := by rw [u8s_length, hmt]
      generalize b.getD i 0 = c at *
      rcases (show i = 0 ∨ i = 1 by omega) with rfl | rfl
      · have t0 : indTo b 1 0 = indM b 0 := rfl
        have t1 : indTo b 1 1 = 32 := rfl
        have t2 : indTo b 0 0 = 32 := rfl
        have t3 : indTo b 0 1 = 32 := rfl
        have hm0 : (0 : Int) < (m : Int) := by omega
        have hmn : 0 < m := h
        refine ex_run 60 ?_
        simp (maxSteps := 200000) only [h, h', hm0, hmn, hg, hmt, hl8, t2, t3, push_cast, List.getD_cons_zero, List.getD_cons_succ, List.take_succ_cons, List.take_zero, List.drop_succ_cons, Nat.reduceLT, Nat.reduceLeDiff, Nat.reduceEqDiff, Nat.reduceAdd, Nat.reduceMul, Nat.reduceSub, Int.reduceToNat, Int.reduceLE, Int.reduceLT, Int.reduceEq, Int.reduceAdd, ↓reduceIte, decide_true, decide_false, and_self]
        refine call_intro (Ind_c c) (fun h => by cases h) ?_
        cases hq : indB c with
        | true =>
          rw [if_pos hq] at hs2
          simp (maxSteps := 200000) only [hm0, push_cast, List.getD_cons_zero, List.getD_cons_succ, List.take_succ_cons, List.take_zero, List.drop_succ_cons, Nat.reduceLT, Nat.reduceLeDiff, Nat.reduceEqDiff, Nat.reduceAdd, Nat.reduceMul, Nat.reduceSub, Int.reduceToNat, Int.reduceLE, Int.reduceLT, Int.reduceEq, Int.reduceAdd, ↓reduceIte, decide_true, decide_false, and_self]
          refine run_back_le (le_mk (l' := [(0, .str tag), (1, .sl b.length (u8s b)), (4, .addr 4 0 0), (5, .addr 5 4 0), (6, .int .i64 m), (25, .sl m (u8s (b.take m))), (26, .int .i64 m), (27, .int .i64 1)]) (t' := [(4, ⟨0, 1, [.str [], .nilS, .int .u8 0, .int .u8 0, .nilS]⟩), (5, ⟨4, 1, [.str tag, .nilS, .int .u8 (indTo b 1 0), .int .u8 (indTo b 1 1), .nilS]⟩)]) (nx' := _) ⟨.refl _, .refl _, .refl _, .refl _, .refl _, .refl _, .refl _, .refl _, trivial⟩ ⟨⟨_, rfl, rfl, rfl, SubL.refl _⟩, ⟨_, rfl, rfl, rfl, ⟨.refl _, .refl _, .of_eq (by rw [t0, hs2]), .refl _, .refl _, trivial⟩⟩, trivial⟩ (Nat.le_refl _)) ?_
          exact ⟨m - 1, by omega, 1, _, by omega, rfl, rfl⟩
        | false =>
          rw [if_neg (by rw [hq]; simp)] at hs2
          simp (maxSteps := 200000) only [hm0, push_cast, List.getD_cons_zero, List.getD_cons_succ, List.take_succ_cons, List.take_zero, List.drop_succ_cons, Nat.reduceLT, Nat.reduceLeDiff, Nat.reduceEqDiff, Nat.reduceAdd, Nat.reduceMul, Nat.reduceSub, Int.reduceToNat, Int.reduceLE, Int.reduceLT, Int.reduceEq, Int.reduceAdd, ↓reduceIte, decide_true, decide_false, and_self]
          refine run_back_le (le_mk (l' := [(0, .str tag), (1, .sl b.length (u8s b)), (4, .addr 4 0 0), (5, .addr 5 4 0), (6, .int .i64 m), (25, .sl m (u8s (b.take m))), (26, .int .i64 m), (27, .int .i64 1)]) (t' := [(4, ⟨0, 1, [.str [], .nilS, .int .u8 0, .int .u8 0, .nilS]⟩), (5, ⟨4, 1, [.str tag, .nilS, .int .u8 (indTo b 1 0), .int .u8 (indTo b 1 1), .nilS]⟩)]) (nx' := _) ⟨.refl _, .refl _, .refl _, .refl _, .refl _, .refl _, .refl _, .refl _, trivial⟩ ⟨⟨_, rfl, rfl, rfl, SubL.refl _⟩, ⟨_, rfl, rfl, rfl, ⟨.refl _, .refl _, .of_eq (by rw [t0, hs2]), .refl _, .refl _, trivial⟩⟩, trivial⟩ (Nat.le_refl _)) ?_
          exact ⟨m - 1, by omega, 1, _, by omega, rfl, rfl⟩
      · have t0 : indTo b 2 0 = indM b 0 := rfl
        have t1 : indTo b 2 1 = indM b 1 := rfl
        have t2 : indTo b 1 0 = indM b 0 := rfl
        have t3 : indTo b 1 1 = 32 := rfl
        have hm0 : (1 : Int) < (m : Int) := by omega
        have hmn : 1 < m := h
        refine ex_run 60 ?_
        simp (maxSteps := 200000) only [h, h', hm0, hmn, hg, hmt, hl8, t2, t3, push_cast, List.getD_cons_zero, List.getD_cons_succ, List.take_succ_cons, List.take_zero, List.drop_succ_cons, Nat.reduceLT, Nat.reduceLeDiff, Nat.reduceEqDiff, Nat.reduceAdd, Nat.reduceMul, Nat.reduceSub, Int.reduceToNat, Int.reduceLE, Int.reduceLT, Int.reduceEq, Int.reduceAdd, ↓reduceIte, decide_true, decide_false, and_self]
        refine ⟨by omega, ?_⟩
        refine call_intro (Ind_c c) (fun h => by cases h) ?_
        cases hq : indB c with
        | true =>
          rw [if_pos hq] at hs2
          simp (maxSteps := 200000) only [hm0, push_cast, List.getD_cons_zero, List.getD_cons_succ, List.take_succ_cons, List.take_zero, List.drop_succ_cons, Nat.reduceLT, Nat.reduceLeDiff, Nat.reduceEqDiff, Nat.reduceAdd, Nat.reduceMul, Nat.reduceSub, Int.reduceToNat, Int.reduceLE, Int.reduceLT, Int.reduceEq, Int.reduceAdd, ↓reduceIte, decide_true, decide_false, and_self]
          refine run_back_le (le_mk (l' := [(0, .str tag), (1, .sl b.length (u8s b)), (4, .addr 4 0 0), (5, .addr 5 4 0), (6, .int .i64 m), (25, .sl m (u8s (b.take m))), (26, .int .i64 m), (27, .int .i64 2)]) (t' := [(4, ⟨0, 1, [.str [], .nilS, .int .u8 0, .int .u8 0, .nilS]⟩), (5, ⟨4, 1, [.str tag, .nilS, .int .u8 (indTo b 2 0), .int .u8 (indTo b 2 1), .nilS]⟩)]) (nx' := _) ⟨.refl _, .refl _, .refl _, .refl _, .refl _, .refl _, .refl _, .refl _, trivial⟩ ⟨⟨_, rfl, rfl, rfl, SubL.refl _⟩, ⟨_, rfl, rfl, rfl, ⟨.refl _, .refl _, .refl _, .of_eq (by rw [t1, hs2]), .refl _, trivial⟩⟩, trivial⟩ (Nat.le_refl _)) ?_
          exact ⟨m - 2, by omega, 2, _, by omega, rfl, rfl⟩
        | false =>
          rw [if_neg (by rw [hq]; simp)] at hs2
          simp (maxSteps := 200000) only [hm0, push_cast, List.getD_cons_zero, List.getD_cons_succ, List.take_succ_cons, List.take_zero, List.drop_succ_cons, Nat.reduceLT, Nat.reduceLeDiff, Nat.reduceEqDiff, Nat.reduceAdd, Nat.reduceMul, Nat.reduceSub, Int.reduceToNat, Int.reduceLE, Int.reduceLT, Int.reduceEq, Int.reduceAdd, ↓reduceIte, decide_true, decide_false, and_self]
          refine run_back_le (le_mk (l' := [(0, .str tag), (1, .sl b.length (u8s b)), (4, .addr 4 0 0), (5, .addr 5 4 0), (6, .int .i64 m), (25, .sl m (u8s (b.take m))), (26, .int .i64 m), (27, .int .i64 2)]) (t' := [(4, ⟨0, 1, [.str [], .nilS, .int .u8 0, .int .u8 0, .nilS]⟩), (5, ⟨4, 1, [.str tag, .nilS, .int .u8 (indTo b 2 0), .int .u8 (indTo b 2 1), .nilS]⟩)]) (nx' := _) ⟨.refl _, .refl _, .refl _, .refl _, .refl _, .refl _, .refl _, .refl _, trivial⟩ ⟨⟨_, rfl, rfl, rfl, SubL.refl _⟩, ⟨_, rfl, rfl, rfl, ⟨.refl _, .refl _, .refl _, .of_eq (by rw [t1, hs2]), .refl _, trivial⟩⟩, trivial⟩ (Nat.le_refl _)) ?_
          exact ⟨m - 2, by omega, 2, _, by omega, rfl, rfl⟩
    · have hie : i = m := by omega
      have h' : ¬ (i : Int) < (m : Int) := by omega
      have hi0 : indTo b i 0 = indM b 0 := by rw [hie, ← hm]; exact indTo_ge b 0
      have hi1 : indTo b i 1 = indM b 1 := by rw [hie, ← hm]; exact indTo_ge b 1
      have htk : List.take b.length b = b := List.take_length
      have hdl : b.length - m = (b.drop m).length := List.length_drop.symm
      have hsub := subs_c (b.drop m) (inB_drop hl m) (by omega)
      rw [← hdl] at hsub
      have hSn := subsM_len (b.drop m)
      have hSm : ∀ s ∈ subsM (b.drop m), s.2.length ≤ (b.drop m).length := fun s h => subsM_mem h
      have hfin : datM tag b = ⟨tag, [], indM b 0, indM b 1, capS 9996 (subsM (b.drop m))⟩ := by unfold datM; rw [hm]
      generalize hS : subsM (b.drop m) = S at *
      have hSl := subCells_length S
      have hSc := subCells_closed S
      refine ex_run 60 ?_
      simp (maxSteps := 200000) only [h', hi0, hi1, htk, push_cast, List.getD_cons_zero, List.getD_cons_succ, List.take_succ_cons, List.take_zero, List.drop_succ_cons, Nat.reduceLT, Nat.reduceLeDiff, Nat.reduceEqDiff, Nat.reduceAdd, Nat.reduceMul, Nat.reduceSub, Int.reduceToNat, Int.reduceLE, Int.reduceLT, Int.reduceEq, Int.reduceAdd, ↓reduceIte, decide_true, decide_false, and_self]
      refine ⟨by omega, ?_⟩
      refine call_intro hsub (fun h => by cases h) ?_
      simp (maxSteps := 200000) only [hSc, hSl, push_cast, List.getD_cons_zero, List.getD_cons_succ, List.take_succ_cons, List.take_zero, List.drop_succ_cons, Nat.reduceLT, Nat.reduceLeDiff, Nat.reduceEqDiff, Nat.reduceAdd, Nat.reduceMul, Nat.reduceSub, Int.reduceToNat, Int.reduceLE, Int.reduceLT, Int.reduceEq, Int.reduceAdd, ↓reduceIte, decide_true, decide_false, and_self]
      refine run_lazyCell 5 4 100 2 ⟨4, 1, [.str tag, .nilS, .int .u8 (indM b 0), .int .u8 (indM b 1), .nilS]⟩ rfl rfl (by decide) ?_
      refine run_keep (l' := [(4, .addr 4 0 0), (5, .addr 5 4 0), (9, .int .i64 (9996 : Nat)), (42, .sl S.length (subCells S)), (43, .int .i64 S.length), (44, .int .i64 0)]) (t' := [(4, ⟨0, 1, [.str [], .nilS, .int .u8 0, .int .u8 0, .nilS]⟩), (5, ⟨4, 1, [.str tag, .nilS, .int .u8 (indM b 0), .int .u8 (indM b 1), .own 100 _ 0 ([] : List SubV).length]⟩), (100, ⟨_, 2, subCells []⟩)]) (nx' := _) ⟨.refl _, .refl _, .refl _, .refl _, .refl _, .refl _, trivial⟩ ⟨⟨_, rfl, rfl, rfl, SubL.refl _⟩, ⟨_, rfl, rfl, rfl, SubL.refl _⟩, ⟨_, rfl, rfl, rfl, SubL.refl _⟩, trivial⟩ (Nat.le_refl _) ?_
      refine run_loop (fun n s => ∃ (j r g nx : Nat) (acc : List SubV), j ≤ S.length ∧ r ≤ 9996 ∧ capS 9996 S = acc ++ capS r (S.drop j) ∧ acc.length ≤ j ∧ n = S.length - j ∧ s = mkS [(4, .addr 4 0 0), (5, .addr 5 4 0), (9, .int .i64 r), (42, .sl S.length (subCells S)), (43, .int .i64 S.length), (44, .int .i64 j)] [(4, ⟨0, 1, [.str [], .nilS, .int .u8 0, .int .u8 0, .nilS]⟩), (5, ⟨4, 1, [.str tag, .nilS, .int .u8 (indM b 0), .int .u8 (indM b 1), .own 100 g 0 acc.length]⟩), (100, ⟨g, 2, subCells acc⟩)] nx) _ ⟨0, 9996, _, _, [], Nat.zero_le _, Nat.le_refl _, rfl, Nat.le_refl _, rfl, rfl⟩ ?_
      clear hi h h' hi0 hi1 hie
      rintro n s ⟨j, r, g, nx, acc, hj, hr, hcap, hacc, rfl, rfl⟩
      have hal := subCells_length acc
      have hcl2 := subCells_closed acc
      have htk2 : (subCells acc).take (acc.length * 2) = subCells acc := List.take_of_length_le (by omega)
      by_cases h : j < S.length
      · have h' : (j : Int) < (S.length : Int) := by omega
        have r0 := subCells_row S j h
        have hpos : 0 < S.length * 2 := by omega
        have l0 : j * 2 + 2 ≤ S.length * 2 := by omega
        have hw : IntKind.i64.wrap ((j : Int) + 1) = ((j + 1 : Nat) : Int) := by rw [wrap_i64 (by omega)]; omega
        have hdr : S.drop j = S[j] :: S.drop (j + 1) := List.drop_eq_getElem_cons h
        have htl := hSm _ (List.getElem_mem h)
        generalize S[j] = q at *
        obtain ⟨c, tx⟩ := q
        simp only [sCells] at r0
        simp only at htl
        have hcx : closedL (u8s tx) = true := u8s_closed tx
        by_cases hr2 : r < 2
        · have hr2' : (r : Int) < 2 := by omega
          refine ex_run 60 ?_
          simp (maxSteps := 200000) only [h, h', r0, hSl, hpos, l0, hcx, hr2', hr2, push_cast, List.getD_cons_zero, List.getD_cons_succ, List.take_succ_cons, List.take_zero, List.drop_succ_cons, Nat.reduceLT, Nat.reduceLeDiff, Nat.reduceEqDiff, Nat.reduceAdd, Nat.reduceMul, Nat.reduceSub, Int.reduceToNat, Int.reduceLE, Int.reduceLT, Int.reduceEq, Int.reduceAdd, ↓reduceIte, decide_true, decide_false, and_self]
          have hcap2 : capS 9996 S = acc := by rw [hcap, hdr, capS, if_pos hr2, List.append_nil]
          exact ⟨[.agg [.str tag, .nilS, .int .u8 (indM b 0), .int .u8 (indM b 1), .own 100 g 0 acc.length]], [.agg [.str tag, .nilS, .int .u8 (indM b 0), .int .u8 (indM b 1), .sl acc.length (subCells acc)]], by kernel_rfl, by simp [outA, outV, outL, outC, AV.closed, mkS_tk, lkG, htk2, hcl2], by rw [hfin, hcap2]; exact sub_agg ⟨.refl _, .nil, .refl _, .refl _, .refl _, trivial⟩, rfl⟩
        · have hr2' : ¬ (r : Int) < 2 := by omega
          refine ex_run 60 ?_
          simp (maxSteps := 200000) only [h, h', r0, hSl, hpos, l0, hcx, hr2', hr2, push_cast, List.getD_cons_zero, List.getD_cons_succ, List.take_succ_cons, List.take_zero, List.drop_succ_cons, Nat.reduceLT, Nat.reduceLeDiff, Nat.reduceEqDiff, Nat.reduceAdd, Nat.reduceMul, Nat.reduceSub, Int.reduceToNat, Int.reduceLE, Int.reduceLT, Int.reduceEq, Int.reduceAdd, ↓reduceIte, decide_true, decide_false, and_self]
          have hct := cut_c tx (r - 2) (by omega) (by omega)
          have hwr : IntKind.i64.wrap ((r : Int) - 2) = ((r - 2 : Nat) : Int) := by rw [wrap_i64 (by omega)]; omega
          have htl2 : (tx.take (r - 2)).length = min (r - 2) tx.length := List.length_take
          rw [hwr]
          refine call_intro hct (fun h => by cases h) ?_
          have hcap2 : capS 9996 S = (acc ++ [(c, tx.take (r - 2))]) ++ capS (r - 2 - (tx.take (r - 2)).length) (S.drop (j + 1)) := by rw [hcap, hdr, capS, if_neg hr2, List.append_assoc]; rfl
          generalize tx.take (r - 2) = ty at *
          have w2 : IntKind.i64.wrap (2 + (ty.length : Int)) = 2 + (ty.length : Int) := wrap_i64 (by omega)
          have w3 : IntKind.i64.wrap ((r : Int) - (2 + (ty.length : Int))) = ((r - 2 - ty.length : Nat) : Int) := by rw [wrap_i64 (by omega)]; omega
          have hcy : closedL (u8s ty) = true := u8s_closed ty
          generalize hr3 : r - 2 - ty.length = r3 at *
          simp (maxSteps := 200000) only [hal, hcy, w2, w3, hw, push_cast, List.getD_cons_zero, List.getD_cons_succ, List.take_succ_cons, List.take_zero, List.drop_succ_cons, Nat.reduceLT, Nat.reduceLeDiff, Nat.reduceEqDiff, Nat.reduceAdd, Nat.reduceMul, Nat.reduceSub, Int.reduceToNat, Int.reduceLE, Int.reduceLT, Int.reduceEq, Int.reduceAdd, ↓reduceIte, decide_true, decide_false, and_self]
          refine ⟨⟨by omega, by omega⟩, ?_⟩
          refine run_back_le (le_mk (l' := [(4, .addr 4 0 0), (5, .addr 5 4 0), (9, .int .i64 r3), (42, .sl S.length (subCells S)), (43, .int .i64 S.length), (44, .int .i64 ((j + 1 : Nat) : Int))]) (t' := [(4, ⟨0, 1, [.str [], .nilS, .int .u8 0, .int .u8 0, .nilS]⟩), (5, ⟨4, 1, [.str tag, .nilS, .int .u8 (indM b 0), .int .u8 (indM b 1), .own 100 _ 0 (acc ++ [(c, ty)]).length]⟩), (100, ⟨_, 2, subCells (acc ++ [(c, ty)])⟩)]) (nx' := _) ⟨.refl _, .refl _, .refl _, .refl _, .refl _, .of_eq (congrArg (AV.int .i64) (by omega)), trivial⟩ ⟨⟨_, rfl, rfl, rfl, SubL.refl _⟩, ⟨_, rfl, rfl, rfl, ⟨.refl _, .refl _, .refl _, .refl _, .of_eq (congrArg (AV.own 100 _ 0) (by simp)), trivial⟩⟩, ⟨_, rfl, rfl, rfl, by rw [subCells_snoc]; exact SubL.refl _⟩, trivial⟩ (Nat.le_refl _)) ?_
          exact ⟨S.length - (j + 1), by omega, j + 1, r3, _, _, acc ++ [(c, ty)], by omega, by omega, hcap2, by rw [List.length_append]; simp; omega, rfl, rfl⟩
      · have h' : ¬ (j : Int) < (S.length : Int) := by omega
        refine ex_run 60 ?_
        simp (maxSteps := 200000) only [h, h', push_cast, List.getD_cons_zero, List.getD_cons_succ, List.take_succ_cons, List.take_zero, List.drop_succ_cons, Nat.reduceLT, Nat.reduceLeDiff, Nat.reduceEqDiff, Nat.reduceAdd, Nat.reduceMul, Nat.reduceSub, Int.reduceToNat, Int.reduceLE, Int.reduceLT, Int.reduceEq, Int.reduceAdd, ↓reduceIte, decide_true, decide_false, and_self]
        have hje : j = S.length := by omega
        have hcap2 : capS 9996 S = acc := by rw [hcap, hje, List.drop_length]; show acc ++ capS r [] = acc; unfold capS; exact List.append_nil _
        exact ⟨[.agg [.str tag, .nilS, .int .u8 (indM b 0), .int .u8 (indM b 1), .own 100 g 0 acc.length]], [.agg [.str tag, .nilS, .int .u8 (indM b 0), .int .u8 (indM b 1), .sl acc.length (subCells acc)]], by kernel_rfl, by simp [outA, outV, outL, outC, AV.closed, mkS_tk, lkG, htk2, hcl2], by rw [hfin, hcap2]; exact sub_agg ⟨.refl _, .nil, .refl _, .refl _, .refl _, trivial⟩, rfl⟩
end Go.Proofs.YteapibifebnboaaDoor
