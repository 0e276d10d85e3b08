/- mend.cut, bytes.Replace of one byte by nothing, mend.control. -/
import Derived.Test.YteapibifebnboaaDoorMndF
set_option linter.unusedVariables false
set_option linter.unusedSimpArgs false
namespace Go.Proofs.YteapibifebnboaaDoor
open Go Go.Eng
set_option maxRecDepth 100000 in
theorem cut_c (l : List Int) (k : Nat) (hl : l.length ≤ 140737488355328) (hk : k ≤ 140737488355328) : ACall Tryd.prog 44 [.sl l.length (u8s l), .int .i64 k] (.sl (l.take k).length (u8s (l.take k))) none := by
  have m1 : (if (k : Int) < 0 then (0 : Int) else (k : Int)) = (k : Int) := if_neg (by omega)
  have m2 : (if (0 : Int) < (k : Int) then (k : Int) else 0) = (k : Int) := by split <;> omega
  have hkl : (l.take k).length = min k l.length := List.length_take
  have hq : (if k < l.length then (k : Int) else (l.length : Int)) = ((min k l.length : Nat) : Int) := by split <;> omega
  have ht : l.take k = l.take (min k l.length) := by rw [List.take_eq_take_iff]; omega
  have hle : min k l.length ≤ l.length := Nat.min_le_right _ _
  refine acall_intro none Tryd.func44 rfl (by kernel_rfl) (by simp [Tryd.f44]) ?_
  refine ex_run 30 ?_
  simp (maxSteps := 200000) only [Tryd.f44, m1, m2, hq, push_cast, List.getD_cons_zero, List.getD_cons_succ, List.take_succ_cons, List.take_zero, List.drop_succ_cons, Nat.reduceLT, Nat.reduceLeDiff, Nat.reduceEqDiff, Nat.reduceAdd, Nat.reduceMul, Nat.reduceSub, Int.reduceToNat, Int.reduceLE, Int.reduceLT, Int.reduceEq, Int.reduceAdd, ↓reduceIte, decide_true, decide_false, and_self]
  refine ⟨by omega, ?_⟩
  rw [ht] at hkl ⊢
  generalize min k l.length = q at *
  have hc := Clone_c (l.take q) (by omega)
  rw [hkl] at hc
  refine call_intro hc (fun h => by cases h) ?_
  simp (maxSteps := 200000) only [push_cast, List.getD_cons_zero, List.getD_cons_succ, List.take_succ_cons, List.take_zero, List.drop_succ_cons, Nat.reduceLT, Nat.reduceLeDiff, Nat.reduceEqDiff, Nat.reduceAdd, Nat.reduceMul, Nat.reduceSub, Int.reduceToNat, Int.reduceLE, Int.reduceLT, Int.reduceEq, Int.reduceAdd, ↓reduceIte, decide_true, decide_false, and_self]
  rw [hkl]
  exact ⟨_, [.sl q (u8s (l.take q))], rfl, by simp [outA, outV, outC, mkS_env, mkS_tk, lkF, lkG, u8s_closed, AV.closed, closedL], .refl _, rfl⟩
/-- The bytes without some. -/
def noB (c : Int) (l : List Int) : List Int := l.filter (fun x => x ≠ c)
theorem noB_none (c : Int) : ∀ l : List Int, l.count c = 0 → noB c l = l
  | [], _ => rfl
  | x :: t, h => by
    by_cases e : x = c
    · rw [e, List.count_cons_self] at h; omega
    · rw [List.count_cons_of_ne e] at h
      have := noB_none c t h
      unfold noB at this ⊢
      rw [List.filter_cons_of_pos (by simpa using e), this]
theorem noB_len (c : Int) : ∀ l : List Int, (noB c l).length + l.count c = l.length
  | [] => rfl
  | x :: t => by
    have := noB_len c t
    unfold noB at this ⊢
    by_cases e : x = c
    · rw [e, List.count_cons_self, List.filter_cons_of_neg (by simp), List.length_cons]; omega
    · rw [List.count_cons_of_ne e, List.filter_cons_of_pos (by simpa using e), List.length_cons, List.length_cons]; omega
theorem noB_some (c : Int) : ∀ l : List Int, l.count c ≠ 0 → ∃ m : Nat, idxI l c = (m : Int) ∧ m < l.length ∧ noB c l = l.take m ++ noB c (l.drop (m + 1)) ∧ (l.drop (m + 1)).count c + 1 = l.count c
  | [], h => absurd rfl h
  | x :: t, h => by
    by_cases e : x = c
    · refine ⟨0, by rw [idxI, if_pos e]; rfl, by simp, ?_, ?_⟩
      · unfold noB; rw [List.filter_cons_of_neg (by simp [e])]; rfl
      · rw [e, List.count_cons_self]; rfl
    · rw [List.count_cons_of_ne e] at h ⊢
      obtain ⟨m, hm, hlt, hs, hc⟩ := noB_some c t h
      refine ⟨m + 1, ?_, by simp; omega, ?_, hc⟩
      · rw [idxI, if_neg e, if_neg (by omega), hm]; rfl
      · unfold noB at hs ⊢
        rw [List.filter_cons_of_pos (by simpa using e), hs]; rfl
theorem zrep_u8 (n : Nat) : zrep [.int .u8 0] n = u8s (List.replicate n 0) := by
  apply List.ext_getElem
  · simp [zrep, u8s]
  · intro i h1 h2
    simp [zrep, u8s]
    rw [show i % 1 = 0 by omega]; rfl
/-- The row while it is filled. -/
def repRow (X : List Int) (k : Nat) : List AV := u8s (X ++ List.replicate k 0)
theorem repRow_len (X : List Int) (k : Nat) : (repRow X k).length = X.length + k := by unfold repRow; rw [u8s_length, List.length_append, List.length_replicate]
theorem repRow_copy (X Y : List Int) (k : Nat) : setAll (repRow X (Y.length + k)) X.length (u8s Y) = repRow (X ++ Y) k := by
  rw [setAll_eq _ _ _ (by rw [repRow_len, u8s_length]; omega), u8s_length]
  unfold repRow
  rw [u8s_take, u8s_drop, ← u8s_append, ← u8s_append, List.take_left, List.drop_append, List.drop_of_length_le (by omega), List.nil_append, List.drop_replicate, show Y.length + k - (X.length + Y.length - X.length) = k by omega]
set_option maxRecDepth 100000 in
set_option maxHeartbeats 4000000 in
theorem Replace_c (l : List Int) (c : Int) (hl : inB l) (hn : l.length ≤ 1099511627776) (hc : 0 ≤ c ∧ c < 256) :
    ACall Tryd.prog 65 [.sl l.length (u8s l), .sl 1 [.int .u8 c], .sl 0 [], .int .i64 (-1)] (.sl (noB c l).length (u8s (noB c l))) none := by
  have hcl : l.count c ≤ l.length := List.count_le_length
  have hnl := noB_len c l
  refine acall_intro none Tryd.func65 rfl (by kernel_rfl) (by simp [Tryd.f65]) ?_
  refine ex_run 60 ?_
  simp (maxSteps := 200000) only [Tryd.f65, push_cast, List.getD_cons_zero, List.getD_cons_succ, List.take_succ_cons, List.take_zero, List.drop_succ_cons, Nat.reduceLT, Nat.reduceLeDiff, Nat.reduceEqDiff, Nat.reduceAdd, Nat.reduceMul, Nat.reduceSub, Int.reduceToNat, Int.reduceLE, Int.reduceLT, Int.reduceEq, Int.reduceAdd, ↓reduceIte, decide_true, decide_false, and_self]
  refine call_intro (Count1_c l c hl hc) (fun h => by cases h) ?_
  by_cases h0 : l.count c = 0
  · rw [h0, noB_none c l h0]
    simp (maxSteps := 200000) only [push_cast, List.getD_cons_zero, List.getD_cons_succ, List.take_succ_cons, List.take_zero, List.drop_succ_cons, Nat.reduceLT, Nat.reduceLeDiff, Nat.reduceEqDiff, Nat.reduceAdd, Nat.reduceMul, Nat.reduceSub, Int.reduceToNat, Int.reduceLE, Int.reduceLT, Int.reduceEq, Int.reduceAdd, ↓reduceIte, decide_true, decide_false, and_self]
    refine ⟨⟨by omega, by omega⟩, ?_⟩
    have htl : (u8s l).take l.length = u8s l := List.take_of_length_le (by rw [u8s_length]; exact Nat.le_refl _)
    exact ⟨_, [.sl l.length (u8s l)], rfl, by simp [outA, outV, outC, mkS_env, mkS_tk, lkF, lkG, u8s_closed, htl, AV.closed, closedL], .refl _, rfl⟩
  · have h0' : ¬ (l.count c : Int) = 0 := by omega
    have w1 : IntKind.i64.wrap (0 - 1) = -1 := by decide
    have w2 : IntKind.i64.wrap ((l.count c : Int) * -1) = -(l.count c : Int) := by rw [wrap_i64 (by omega)]; omega
    have w3 : IntKind.i64.wrap ((l.length : Int) + -(l.count c : Int)) = ((noB c l).length : Int) := by rw [wrap_i64 (by omega)]; omega
    generalize hN : l.count c = N at *
    generalize hM : (noB c l).length = M at *
    simp (maxSteps := 200000) only [h0', w1, w2, w3, zrep_u8, push_cast, List.getD_cons_zero, List.getD_cons_succ, List.take_succ_cons, List.take_zero, List.drop_succ_cons, Nat.reduceLT, Nat.reduceLeDiff, Nat.reduceEqDiff, Nat.reduceAdd, Nat.reduceMul, Nat.reduceSub, Int.reduceToNat, Int.reduceLE, Int.reduceLT, Int.reduceEq, Int.reduceAdd, ↓reduceIte, decide_true, decide_false, and_self]
    refine ⟨⟨by omega, by omega⟩, ?_⟩
    refine run_keep (l' := [(0, .sl l.length (u8s l)), (1, .sl 1 [.int .u8 c]), (2, .sl 0 []), (10, .own 44 29 0 M), (11, .int .i64 0), (12, .int .i64 0), (48, .int .i64 N), (49, .int .i64 0)]) (t' := [(44, ⟨29, 1, repRow [] M⟩)]) (nx' := _) ⟨.refl _, .refl _, .refl _, .refl _, .refl _, .refl _, .refl _, .refl _, trivial⟩ ⟨⟨_, rfl, rfl, rfl, SubL.refl _⟩, trivial⟩ (Nat.le_refl _) ?_
    refine run_loop (fun n s => ∃ (k st nx : Nat) (X : List Int), noB c l = X ++ noB c (l.drop st) ∧ st ≤ l.length ∧ k + (l.drop st).count c = N ∧ n = N - k ∧ s = mkS [(0, .sl l.length (u8s l)), (1, .sl 1 [.int .u8 c]), (2, .sl 0 []), (10, .own 44 29 0 M), (11, .int .i64 X.length), (12, .int .i64 st), (48, .int .i64 N), (49, .int .i64 k)] [(44, ⟨29, 1, repRow X (M - X.length)⟩)] nx) _ ⟨0, 0, _, [], rfl, Nat.zero_le _, by rw [List.drop_zero, hN, Nat.zero_add], rfl, rfl⟩ ?_
    rintro n s ⟨k, st, nx, X, hX, hst, hk, rfl, rfl⟩
    have hr : inB (l.drop st) := inB_drop hl st
    have hrl : (l.drop st).length = l.length - st := List.length_drop
    have hXM : X.length + (noB c (l.drop st)).length = M := by rw [← hM, hX, List.length_append]
    have hrow : (repRow X (M - X.length)).length = M := by rw [repRow_len]; omega
    generalize hxl : X.length = x at *
    by_cases h : k < N
    · have h' : (k : Int) < (N : Int) := by omega
      obtain ⟨m, hm, hml, hs, hcc⟩ := noB_some c (l.drop st) (by omega)
      have wk : IntKind.i64.wrap ((k : Int) + 1) = ((k + 1 : Nat) : Int) := by rw [wrap_i64 (by omega)]; omega
      have hIdx := Index1_c (l.drop st) c hr hc
      rw [hrl] at hIdx
      have htk : l.take l.length = l := List.take_length
      have hst2 : st ≤ l.length := hst
      have ws : IntKind.i64.wrap ((st : Int) + (m : Int)) = ((st + m : Nat) : Int) := by rw [wrap_i64 (by omega)]; omega
      have ws2 : IntKind.i64.wrap (((st + m : Nat) : Int) + 1) = ((st + m + 1 : Nat) : Int) := by rw [wrap_i64 (by omega)]; omega
      have hPl : ((l.drop st).take m).length = m := by rw [List.length_take]; omega
      have hdt : List.drop st (List.take (st + m) l) = (l.drop st).take m := by rw [List.drop_take, show st + m - st = m by omega]
      have hy : x + m + (noB c (l.drop (st + m + 1))).length = M := by rw [hs, List.length_append, hPl, List.drop_drop] at hXM; rw [show st + (m + 1) = st + m + 1 by omega] at hXM; omega
      have hq : min m (M - x) = m := by omega
      have htq : List.take m ((l.drop st).take m) = (l.drop st).take m := List.take_of_length_le (by omega)
      have hcp : setAll (repRow X (M - x)) x (u8s ((l.drop st).take m)) = repRow (X ++ (l.drop st).take m) (M - (x + m)) := by
        have := repRow_copy X ((l.drop st).take m) (M - (x + m))
        rw [hxl, hPl, show m + (M - (x + m)) = M - x by omega] at this; exact this
      have hXl : (X ++ (l.drop st).take m).length = x + m := by rw [List.length_append, hxl, hPl]
      have hX2 : noB c l = (X ++ (l.drop st).take m) ++ noB c (l.drop (st + m + 1)) := by rw [hX, hs, List.drop_drop, List.append_assoc]; rfl
      have hc2 : k + 1 + (l.drop (st + m + 1)).count c = N := by rw [List.drop_drop] at hcc; rw [show st + (m + 1) = st + m + 1 by omega] at hcc; omega
      have hrow2 : (repRow (X ++ (l.drop st).take m) (M - (x + m))).length = M := by rw [repRow_len, hXl]; omega
      have wx : IntKind.i64.wrap ((x : Int) + (m : Int)) = ((x + m : Nat) : Int) := by rw [wrap_i64 (by omega)]; omega
      have wx0 : IntKind.i64.wrap (((x + m : Nat) : Int) + 0) = ((x + m : Nat) : Int) := by rw [wrap_i64 (by omega)]; omega
      have hsm : st + m - st = m := by omega
      have hm0 : ∀ z, min 0 z = 0 := fun z => Nat.zero_min z
      have hst1 : st + m + 1 ≤ l.length := by omega
      generalize (l.drop st).take m = P at *
      generalize hyy : x + m = y at *
      refine ex_run 60 ?_
      simp (maxSteps := 200000) only [h, h', htk, push_cast, List.getD_cons_zero, List.getD_cons_succ, List.take_succ_cons, List.take_zero, List.drop_succ_cons, Nat.reduceLT, Nat.reduceLeDiff, Nat.reduceEqDiff, Nat.reduceAdd, Nat.reduceMul, Nat.reduceSub, Int.reduceToNat, Int.reduceLE, Int.reduceLT, Int.reduceEq, Int.reduceAdd, ↓reduceIte, decide_true, decide_false, and_self]
      refine ⟨hst, ?_⟩
      refine call_intro hIdx (fun h => by cases h) ?_
      rw [hm]
      generalize hj : st + m = j at *
      simp (maxSteps := 200000) only [h, h', htk, ws, ws2, hrow, hrow2, hsm, hdt, hq, htq, hcp, wx, wx0, wk, hm0, List.take_zero, u8s_nil, setAll, push_cast, List.getD_cons_zero, List.getD_cons_succ, List.take_succ_cons, List.take_zero, List.drop_succ_cons, Nat.reduceLT, Nat.reduceLeDiff, Nat.reduceEqDiff, Nat.reduceAdd, Nat.reduceMul, Nat.reduceSub, Int.reduceToNat, Int.reduceLE, Int.reduceLT, Int.reduceEq, Int.reduceAdd, ↓reduceIte, decide_true, decide_false, and_self]
      refine ⟨by kernel_rfl, by omega, ⟨by omega, by omega⟩, by omega, by omega, okTr_of (by kernel_rfl), by omega, by omega, ?_⟩
      refine run_back_le (le_mk (l' := [(0, .sl l.length (u8s l)), (1, .sl 1 [.int .u8 c]), (2, .sl 0 []), (10, .own 44 29 0 M), (11, .int .i64 y), (12, .int .i64 ((j + 1 : Nat) : Int)), (48, .int .i64 N), (49, .int .i64 ((k + 1 : Nat) : Int))]) (t' := [(44, ⟨29, 1, repRow (X ++ P) (M - y)⟩)]) (nx' := _) ⟨.refl _, .refl _, .refl _, .refl _, .refl _, .of_eq (congrArg (AV.int .i64) (by omega)), .refl _, .of_eq (congrArg (AV.int .i64) (by omega)), trivial⟩ ⟨⟨_, rfl, rfl, rfl, SubL.refl _⟩, trivial⟩ (Nat.le_refl _)) ?_
      exact ⟨N - (k + 1), by omega, k + 1, j + 1, _, X ++ P, hX2, hst1, hc2, rfl, by rw [hXl]⟩
    · have hke : k = N := by omega
      have h' : ¬ (k : Int) < (N : Int) := by omega
      have hs := noB_none c (l.drop st) (by omega)
      have htk : l.take l.length = l := List.take_length
      have hq : min (l.length - st) (M - x) = l.length - st := by rw [hs, hrl] at hXM; omega
      have htq : List.take (l.length - st) (l.drop st) = l.drop st := List.take_of_length_le (by rw [hrl]; exact Nat.le_refl _)
      have hXM2 : x + (l.length - st) = M := by rw [hs, hrl] at hXM; exact hXM
      have hcp : setAll (repRow X (M - x)) x (u8s (l.drop st)) = repRow (X ++ l.drop st) 0 := by
        have := repRow_copy X (l.drop st) 0
        rw [hxl, hrl, show l.length - st + 0 = M - x by omega] at this; exact this
      have wx : IntKind.i64.wrap ((x : Int) + ((l.length - st : Nat) : Int)) = (M : Int) := by rw [wrap_i64 (by omega)]; omega
      have hfin : X ++ l.drop st = noB c l := by rw [hX, hs]
      have hrf : repRow (noB c l) 0 = u8s (noB c l) := by unfold repRow; simp
      rw [hfin, hrf] at hcp
      generalize hQ : l.length - st = q at *
      refine ex_run 60 ?_
      simp (maxSteps := 200000) only [h', hrow, htk, hQ, hq, htq, hcp, wx, push_cast, List.getD_cons_zero, List.getD_cons_succ, List.take_succ_cons, List.take_zero, List.drop_succ_cons, Nat.reduceLT, Nat.reduceLeDiff, Nat.reduceEqDiff, Nat.reduceAdd, Nat.reduceMul, Nat.reduceSub, Int.reduceToNat, Int.reduceLE, Int.reduceLT, Int.reduceEq, Int.reduceAdd, ↓reduceIte, decide_true, decide_false, and_self]
      refine ⟨by kernel_rfl, by omega, by omega, by first | exact hrl | omega, by omega, okTr_of (by kernel_rfl), ?_⟩
      have hMl : (u8s (noB c l)).take M = u8s (noB c l) := List.take_of_length_le (by rw [u8s_length]; omega)
      exact ⟨_, [.sl M (u8s (noB c l))], rfl, by simp [outA, outV, outC, mkS_env, mkS_tk, lkF, lkG, u8s_closed, hMl, AV.closed, closedL], .refl _, rfl⟩
set_option maxRecDepth 100000 in
theorem ReplaceAll_c (l : List Int) (c : Int) (hl : inB l) (hn : l.length ≤ 1099511627776) (hc : 0 ≤ c ∧ c < 256) :
    ACall Tryd.prog 45 [.sl l.length (u8s l), .sl 1 [.int .u8 c], .sl 0 []] (.sl (noB c l).length (u8s (noB c l))) none := by
  refine acall_intro none Tryd.func45 rfl (by kernel_rfl) (by simp [Tryd.f45]) ?_
  refine ex_run 60 ?_
  simp (maxSteps := 200000) only [Tryd.f45, push_cast, List.getD_cons_zero, List.getD_cons_succ, List.take_succ_cons, List.take_zero, List.drop_succ_cons, Nat.reduceLT, Nat.reduceLeDiff, Nat.reduceEqDiff, Nat.reduceAdd, Nat.reduceMul, Nat.reduceSub, Int.reduceToNat, Int.reduceLE, Int.reduceLT, Int.reduceEq, Int.reduceAdd, ↓reduceIte, decide_true, decide_false, and_self]
  refine call_intro (Replace_c l c hl hn hc) (fun h => by cases h) ?_
  simp (maxSteps := 200000) only [push_cast, List.getD_cons_zero, List.getD_cons_succ, List.take_succ_cons, List.take_zero, List.drop_succ_cons, Nat.reduceLT, Nat.reduceLeDiff, Nat.reduceEqDiff, Nat.reduceAdd, Nat.reduceMul, Nat.reduceSub, Int.reduceToNat, Int.reduceLE, Int.reduceLT, Int.reduceEq, Int.reduceAdd, ↓reduceIte, decide_true, decide_false, and_self]
  exact ⟨_, [.sl (noB c l).length (u8s (noB c l))], rfl, by simp [outA, outV, outC, mkS_env, mkS_tk, lkF, lkG, u8s_closed, AV.closed, closedL], .refl _, rfl⟩
def ctlM (tag b : List Int) : FV := ⟨tag, (noB 31 b).take 9998, 0, 0, []⟩
set_option maxRecDepth 100000 in
theorem mctl_c (tag b : List Int) (ht : tag.length ≤ 9223372036854775807) (hl : inB b) (hn : b.length ≤ 1099511627776) :
    ACall Tryd.prog 20 [.str tag, .sl b.length (u8s b)] (.agg (fCells (ctlM tag b))) none := by
  have hnl := noB_len 31 b
  refine acall_intro none Tryd.func20 rfl (by kernel_rfl) (by simp [Tryd.f20]) ?_
  refine ex_run 3 ?_
  simp (maxSteps := 200000) only [Tryd.f20, push_cast, List.getD_cons_zero, List.getD_cons_succ, List.take_succ_cons, List.take_zero, List.drop_succ_cons, Nat.reduceLT, Nat.reduceLeDiff, Nat.reduceEqDiff, Nat.reduceAdd, Nat.reduceMul, Nat.reduceSub, Int.reduceToNat, Int.reduceLE, Int.reduceLT, Int.reduceEq, Int.reduceAdd, ↓reduceIte, decide_true, decide_false, and_self]
  refine run_region_cut 3 (by decide) ?_
  simp (maxSteps := 200000) only [List.toList_toArray, push_cast, List.getD_cons_zero, List.getD_cons_succ, List.take_succ_cons, List.take_zero, List.drop_succ_cons, Nat.reduceLT, Nat.reduceLeDiff, Nat.reduceEqDiff, Nat.reduceAdd, Nat.reduceMul, Nat.reduceSub, Int.reduceToNat, Int.reduceLE, Int.reduceLT, Int.reduceEq, Int.reduceAdd, ↓reduceIte, decide_true, decide_false, and_self]
  refine ⟨mkS [(7, .sl 1 [.int .u8 31]), (6, .sl b.length (u8s b)), (5, .str tag), (4, .addr 4 0 0), (0, .str tag), (1, .sl b.length (u8s b))] [(4, ⟨0, 1, [.str [], .nilS, .int .u8 0, .int .u8 0, .nilS]⟩)] 8,
    freeze_leU 7 ⟨3, 1, [.int .u8 31]⟩ rfl ⟨frz_own 7 3 [31], .keep _, .keep _, .keep _, .keep _, .keep _, trivial⟩ ⟨by decide, ⟨_, rfl, rfl, rfl, FrzL.refl _⟩, trivial⟩, rfl, ?_⟩
  simp (maxSteps := 200000) only [List.toList_toArray, push_cast, List.getD_cons_zero, List.getD_cons_succ, List.take_succ_cons, List.take_zero, List.drop_succ_cons, Nat.reduceLT, Nat.reduceLeDiff, Nat.reduceEqDiff, Nat.reduceAdd, Nat.reduceMul, Nat.reduceSub, Int.reduceToNat, Int.reduceLE, Int.reduceLT, Int.reduceEq, Int.reduceAdd, ↓reduceIte, decide_true, decide_false, and_self]
  refine call_intro (ReplaceAll_c b 31 hl hn (by decide)) (fun h => by cases h) ?_
  simp (maxSteps := 200000) only [push_cast, List.getD_cons_zero, List.getD_cons_succ, List.take_succ_cons, List.take_zero, List.drop_succ_cons, Nat.reduceLT, Nat.reduceLeDiff, Nat.reduceEqDiff, Nat.reduceAdd, Nat.reduceMul, Nat.reduceSub, Int.reduceToNat, Int.reduceLE, Int.reduceLT, Int.reduceEq, Int.reduceAdd, ↓reduceIte, decide_true, decide_false, and_self]
  have hct := cut_c (noB 31 b) 9998 (by omega) (by decide)
  refine call_intro hct (fun h => by cases h) ?_
  simp (maxSteps := 200000) only [push_cast, List.getD_cons_zero, List.getD_cons_succ, List.take_succ_cons, List.take_zero, List.drop_succ_cons, Nat.reduceLT, Nat.reduceLeDiff, Nat.reduceEqDiff, Nat.reduceAdd, Nat.reduceMul, Nat.reduceSub, Int.reduceToNat, Int.reduceLE, Int.reduceLT, Int.reduceEq, Int.reduceAdd, ↓reduceIte, decide_true, decide_false, and_self]
  refine ex_run 30 ?_
  simp (maxSteps := 200000) only [push_cast, List.getD_cons_zero, List.getD_cons_succ, List.take_succ_cons, List.take_zero, List.drop_succ_cons, Nat.reduceLT, Nat.reduceLeDiff, Nat.reduceEqDiff, Nat.reduceAdd, Nat.reduceMul, Nat.reduceSub, Int.reduceToNat, Int.reduceLE, Int.reduceLT, Int.reduceEq, Int.reduceAdd, ↓reduceIte, decide_true, decide_false, and_self]
  exact ⟨[.agg [.str tag, .sl (List.take 9998 (noB 31 b)).length (u8s (List.take 9998 (noB 31 b))), .int .u8 0, .int .u8 0, .nilS]], [.agg [.str tag, .sl (List.take 9998 (noB 31 b)).length (u8s (List.take 9998 (noB 31 b))), .int .u8 0, .int .u8 0, .nilS]], by kernel_rfl, by simp [outA, outV, outL, outC, AV.closed, u8s_closed, mkS_tk, lkG], sub_agg ⟨.refl _, .refl _, .refl _, .refl _, .nil, trivial⟩, rfl⟩
end Go.Proofs.YteapibifebnboaaDoor
