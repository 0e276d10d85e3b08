/- GRa: the texts RecA, RecB, RecC, RecD, RecE, RecF, one behind the other. -/
import Derived.Test.YteapibifebnboaaDoorGFa
import Derived.Test.YteapibifebnboaaDoorGEc
import Derived.Test.YteapibifebnboaaDoorGDb
import Derived.Test.YteapibifebnboaaDoorGFd
set_option linter.unusedVariables false
set_option linter.unusedSimpArgs false

/- leader: what the functions compute, as plain lists; the functions of one byte. -/
set_option linter.unusedVariables false
set_option linter.unusedSimpArgs false
namespace Go.Proofs.YteapibifebnboaaDoor
open Go Go.Eng
def numAt (i : Int) : Bool := decide (i < 5) || (decide (12 ≤ i) && decide (i < 17))
def mustB (i : Int) : Int := if i = 10 ∨ i = 11 then 50 else if i = 20 then 52 else if i = 21 then 53 else if i = 22 ∨ i = 23 then 48 else 0
def ledB (i c : Int) (p : Bool) : Bool :=
  if numAt i = true then p || isD c
  else if mustB i ≠ 0 then decide (c = mustB i)
  else if i = 9 then decide (c = 32) || decide (c = 97)
  else decide (32 ≤ c) && decide (c ≤ 126)
set_option maxRecDepth 100000 in
theorem number1_c (i : Int) : ACall Tryd.prog 56 [.int .i64 i] (.bool (numAt i)) none := by
  refine acall_intro none Tryd.func56 rfl (by kernel_rfl) (by simp [Tryd.f56]) ?_
  refine ex_run 30 ?_
  simp (maxSteps := 200000) only [Tryd.f56, push_cast, List.getD_cons_zero, List.getD_cons_succ, List.take_succ_cons, List.take_zero, List.drop_succ_cons, Nat.reduceLT, Nat.reduceLeDiff, Nat.reduceEqDiff, Nat.reduceAdd, Nat.reduceMul, Nat.reduceSub, Int.reduceToNat, Int.reduceLE, Int.reduceLT, Int.reduceEq, Int.reduceAdd, ↓reduceIte, decide_true, decide_false, and_self]
  repeat' (first | apply And.intro | intro _)
  all_goals exact ⟨_, _, rfl, rfl, .of_eq (by simp [numAt, pack, mkS_env, lkF, *]), rfl⟩
set_option maxRecDepth 100000 in
theorem must_c (i : Int) : ACall Tryd.prog 57 [.int .i64 i] (.int .u8 (mustB i)) none := by
  refine acall_intro none Tryd.func57 rfl (by kernel_rfl) (by simp [Tryd.f57]) ?_
  refine ex_run 60 ?_
  simp (maxSteps := 200000) only [Tryd.f57, push_cast, List.getD_cons_zero, List.getD_cons_succ, List.take_succ_cons, List.take_zero, List.drop_succ_cons, Nat.reduceLT, Nat.reduceLeDiff, Nat.reduceEqDiff, Nat.reduceAdd, Nat.reduceMul, Nat.reduceSub, Int.reduceToNat, Int.reduceLE, Int.reduceLT, Int.reduceEq, Int.reduceAdd, ↓reduceIte, decide_true, decide_false, and_self]
  repeat' (first | apply And.intro | intro _)
  all_goals first
    | (exfalso; omega)
    | exact ⟨_, _, rfl, rfl, .of_eq (by simp [mustB, pack, mkS_env, lkF, *]), rfl⟩
set_option maxRecDepth 100000 in
set_option maxHeartbeats 4000000 in
theorem lgood_c (i c : Int) (p : Bool) : ACall Tryd.prog 68 [.int .i64 i, .int .u8 c, .bool p] (.bool (ledB i c p)) none := by
  refine acall_intro none Tryd.func68 rfl (by kernel_rfl) (by simp [Tryd.f68]) ?_
  refine ex_run 60 ?_
  simp (maxSteps := 200000) only [Tryd.f68, push_cast, List.getD_cons_zero, List.getD_cons_succ, List.take_succ_cons, List.take_zero, List.drop_succ_cons, Nat.reduceLT, Nat.reduceLeDiff, Nat.reduceEqDiff, Nat.reduceAdd, Nat.reduceMul, Nat.reduceSub, Int.reduceToNat, Int.reduceLE, Int.reduceLT, Int.reduceEq, Int.reduceAdd, ↓reduceIte, decide_true, decide_false, and_self]
  refine call_intro (number1_c i) (fun h => by cases h) ?_
  cases hn : numAt i with
  | true =>
    cases p
    all_goals
      simp (maxSteps := 200000) only [push_cast, List.getD_cons_zero, List.getD_cons_succ, List.take_succ_cons, List.take_zero, List.drop_succ_cons, Nat.reduceLT, Nat.reduceLeDiff, Nat.reduceEqDiff, Nat.reduceAdd, Nat.reduceMul, Nat.reduceSub, Int.reduceToNat, Int.reduceLE, Int.reduceLT, Int.reduceEq, Int.reduceAdd, ↓reduceIte, decide_true, decide_false, and_self]
      repeat' (first | apply And.intro | intro _)
    all_goals exact ⟨_, _, rfl, rfl, .of_eq (by simp [ledB, hn, isD, pack, mkS_env, lkF, *]), rfl⟩
  | false =>
    simp (maxSteps := 200000) only [push_cast, List.getD_cons_zero, List.getD_cons_succ, List.take_succ_cons, List.take_zero, List.drop_succ_cons, Nat.reduceLT, Nat.reduceLeDiff, Nat.reduceEqDiff, Nat.reduceAdd, Nat.reduceMul, Nat.reduceSub, Int.reduceToNat, Int.reduceLE, Int.reduceLT, Int.reduceEq, Int.reduceAdd, ↓reduceIte, decide_true, decide_false, and_self]
    refine call_intro (must_c i) (fun h => by cases h) ?_
    by_cases hm : mustB i = 0
    · rw [hm]
      simp (maxSteps := 200000) only [push_cast, List.getD_cons_zero, List.getD_cons_succ, List.take_succ_cons, List.take_zero, List.drop_succ_cons, Nat.reduceLT, Nat.reduceLeDiff, Nat.reduceEqDiff, Nat.reduceAdd, Nat.reduceMul, Nat.reduceSub, Int.reduceToNat, Int.reduceLE, Int.reduceLT, Int.reduceEq, Int.reduceAdd, ↓reduceIte, decide_true, decide_false, and_self]
      repeat' (first | apply And.intro | intro _)
      all_goals exact ⟨_, _, rfl, rfl, .of_eq (by simp [ledB, hn, hm, show numAt 9 = false from by decide, show mustB 9 = 0 from by decide, pack, mkS_env, lkF, *]), rfl⟩
    · simp (maxSteps := 200000) only [hm, push_cast, List.getD_cons_zero, List.getD_cons_succ, List.take_succ_cons, List.take_zero, List.drop_succ_cons, Nat.reduceLT, Nat.reduceLeDiff, Nat.reduceEqDiff, Nat.reduceAdd, Nat.reduceMul, Nat.reduceSub, Int.reduceToNat, Int.reduceLE, Int.reduceLT, Int.reduceEq, Int.reduceAdd, ↓reduceIte, decide_true, decide_false, and_self]
      refine call_intro (must_c i) (fun h => by cases h) ?_
      simp (maxSteps := 200000) only [hm, push_cast, List.getD_cons_zero, List.getD_cons_succ, List.take_succ_cons, List.take_zero, List.drop_succ_cons, Nat.reduceLT, Nat.reduceLeDiff, Nat.reduceEqDiff, Nat.reduceAdd, Nat.reduceMul, Nat.reduceSub, Int.reduceToNat, Int.reduceLE, Int.reduceLT, Int.reduceEq, Int.reduceAdd, ↓reduceIte, decide_true, decide_false, and_self]
      exact ⟨_, _, rfl, rfl, .of_eq (by simp [ledB, hn, hm, pack, mkS_env, lkF, *]), rfl⟩
set_option maxRecDepth 100000 in
set_option maxHeartbeats 4000000 in
theorem rat_c (i c : Int) (p : Bool) : ACall Tryd.prog 36 [.int .i64 i, .int .u8 c, .bool p] (.bool (ledB i c p)) none := by
  refine acall_intro none Tryd.func36 rfl (by kernel_rfl) (by simp [Tryd.f36]) ?_
  refine ex_run 100 ?_
  cases p
  all_goals
    simp (maxSteps := 400000) only [Tryd.f36, push_cast, List.getD_cons_zero, List.getD_cons_succ, List.take_succ_cons, List.take_zero, List.drop_succ_cons, Nat.reduceLT, Nat.reduceLeDiff, Nat.reduceEqDiff, Nat.reduceAdd, Nat.reduceMul, Nat.reduceSub, Int.reduceToNat, Int.reduceLE, Int.reduceLT, Int.reduceEq, Int.reduceAdd, ↓reduceIte, decide_true, decide_false, and_self]
    repeat' (first | apply And.intro | intro _)
  all_goals first
    | (exfalso; omega)
    | exact ⟨_, _, rfl, rfl, .of_eq (by simp [ledB, numAt, isD, mustB, pack, mkS_env, lkF, *]), rfl⟩
end Go.Proofs.YteapibifebnboaaDoor

/- leader: a leader's numbers, whether it is sound. -/
set_option linter.unusedVariables false
set_option linter.unusedSimpArgs false
namespace Go.Proofs.YteapibifebnboaaDoor
open Go Go.Eng
/-- The first place at which no leader's byte stands. -/
def ledFrom : List Int → Nat → Nat
  | [], i => i
  | c :: t, i => if ledB i c false = true then ledFrom t (i + 1) else i
def ledAt (b : List Int) : Nat := ledFrom (b.take 24) 0
theorem ledFrom_drop {l : List Int} {i : Nat} (h : i < l.length) : ledFrom (l.drop i) i = if ledB i (l.getD i 0) false = true then ledFrom (l.drop (i + 1)) (i + 1) else i := by
  rw [List.drop_eq_getElem_cons h, ledFrom, List.getD_eq_getElem?_getD, List.getElem?_eq_getElem h]; rfl
theorem ledFrom_le : ∀ (l : List Int) (i : Nat), i ≤ ledFrom l i ∧ ledFrom l i ≤ i + l.length
  | [], i => by simp [ledFrom]
  | c :: t, i => by
    unfold ledFrom
    have := ledFrom_le t (i + 1)
    rw [List.length_cons]
    split <;> omega
theorem ledFrom_all : ∀ (l : List Int) (i : Nat), ledFrom l i = i + l.length → ∀ j, j < l.length → ledB (i + j : Nat) (l.getD j 0) false = true
  | [], i, _, j, hj => by simp at hj
  | c :: t, i, h, j, hj => by
    have hle := ledFrom_le t (i + 1)
    unfold ledFrom at h
    rw [List.length_cons] at h hj
    split at h
    · rename_i hc
      cases j with
      | zero => simpa using hc
      | succ j =>
        have := ledFrom_all t (i + 1) (by omega) j (by omega)
        rw [List.getD_cons_succ, show i + (j + 1) = i + 1 + j by omega]; exact this
    · omega
theorem ledAt_le (b : List Int) : ledAt b ≤ 24 ∧ ledAt b ≤ b.length := by
  have := ledFrom_le (b.take 24) 0
  rw [List.length_take] at this
  unfold ledAt; omega
/-- In a leader all bytes may stand where they do. -/
theorem ledAt_all {b : List Int} (h : ledAt b = 24) : 24 ≤ b.length ∧ ∀ i : Nat, i < 24 → ledB i (b.getD i 0) false = true := by
  have hl := ledAt_le b
  refine ⟨by omega, fun i hi => ?_⟩
  have := ledFrom_all (b.take 24) 0 (by rw [List.length_take, Nat.min_eq_left (by omega)]; unfold ledAt at h; omega) i (by rw [List.length_take, Nat.min_eq_left (by omega)]; exact hi)
  rw [Nat.zero_add, List.getD_eq_getElem?_getD, List.getElem?_take, if_pos hi, ← List.getD_eq_getElem?_getD] at this
  exact this
theorem led_digits {b : List Int} (h : ledAt b = 24) : (∀ c ∈ b.take 5, isD c = true) ∧ ∀ c ∈ (b.drop 12).take 5, isD c = true := by
  obtain ⟨hl, ha⟩ := ledAt_all h
  have key : ∀ i : Nat, i < 24 → numAt i = true → isD (b.getD i 0) = true := fun i hi hn => by
    have := ha i hi
    unfold ledB at this
    rw [if_pos hn] at this
    simpa using this
  constructor
  · intro c hc
    obtain ⟨i, hi, rfl⟩ := List.mem_iff_getElem.1 hc
    rw [List.length_take] at hi
    have := key i (by omega) (by unfold numAt; rw [decide_eq_true (show ((i : Nat) : Int) < 5 by omega)]; rfl)
    rw [List.getElem_take]
    rw [List.getD_eq_getElem?_getD, List.getElem?_eq_getElem (by omega)] at this; exact this
  · intro c hc
    obtain ⟨i, hi, rfl⟩ := List.mem_iff_getElem.1 hc
    rw [List.length_take, List.length_drop] at hi
    have := key (12 + i) (by omega) (by unfold numAt; rw [decide_eq_true (show (12 : Int) ≤ ((12 + i : Nat) : Int) by omega), decide_eq_true (show ((12 + i : Nat) : Int) < 17 by omega)]; simp)
    rw [List.getElem_take, List.getElem_drop]
    rw [List.getD_eq_getElem?_getD, List.getElem?_eq_getElem (by omega)] at this; exact this
def sndFrom : List Int → Nat → Bool
  | [], _ => true
  | c :: t, i => ledB i c true && sndFrom t (i + 1)
def soundL (s : List Int) : Bool := decide (s.length = 24) && sndFrom s 0
theorem sndFrom_drop {l : List Int} {i : Nat} (h : i < l.length) : sndFrom (l.drop i) i = (ledB i (l.getD i 0) true && sndFrom (l.drop (i + 1)) (i + 1)) := by
  rw [List.drop_eq_getElem_cons h, sndFrom, List.getD_eq_getElem?_getD, List.getElem?_eq_getElem h]; rfl
set_option maxRecDepth 100000 in
set_option maxHeartbeats 4000000 in
theorem value_c (l : List Int) (n : Nat) (hn : l.length = n) (hl5 : n ≤ 5) (hd : ∀ c ∈ l, isD c = true) : ACall Tryd.prog 76 [.sl n (u8s l)] (.int .i64 (valOf l)) none := by
  subst hn
  refine acall_intro none Tryd.func76 rfl (by kernel_rfl) (by simp [Tryd.f76]) ?_
  refine ex_run 100 ?_
  simp (maxSteps := 200000) only [Tryd.f76, push_cast, List.getD_cons_zero, List.getD_cons_succ, List.take_succ_cons, List.take_zero, List.drop_succ_cons, Nat.reduceLT, Nat.reduceLeDiff, Nat.reduceEqDiff, Nat.reduceAdd, Nat.reduceMul, Nat.reduceSub, Int.reduceToNat, Int.reduceLE, Int.reduceLT, Int.reduceEq, Int.reduceAdd, ↓reduceIte, decide_true, decide_false, and_self]
  refine run_keep (l' := [(3, .int .i64 (valOf (l.take 0))), (6, .sl l.length (u8s l)), (7, .int .i64 l.length), (8, .int .i64 (0 : Nat))]) (t' := []) (nx' := _) ⟨.refl _, .refl _, .refl _, .refl _, trivial⟩ trivial (Nat.le_refl _) ?_
  refine run_loop (fun n s => ∃ (i nx : Nat), i ≤ l.length ∧ n = l.length - i ∧ s = mkS [(3, .int .i64 (valOf (l.take i))), (6, .sl l.length (u8s l)), (7, .int .i64 l.length), (8, .int .i64 i)] [] nx) _ ⟨0, _, Nat.zero_le _, rfl, rfl⟩ ?_
  rintro n s ⟨i, nx, hi, rfl, rfl⟩
  by_cases h : i < l.length
  · have hw : IntKind.i64.wrap ((i : Int) + 1) = ((i + 1 : Nat) : Int) := by rw [wrap_i64 (by omega)]; omega
    have hpos : 0 < l.length := by omega
    have hg := u8s_getD l i h
    have hv := valOf_small hi hl5 fun c hc => hd c (List.mem_of_mem_take hc)
    have hs := valOf_succ h
    have hdd : isD (l.getD i 0) = true := getD_all h hd
    simp only [isD, decide_eq_true_eq] at hdd
    obtain ⟨v2, hv2⟩ : ∃ v, valOf (l.take (i + 1)) = v := ⟨_, rfl⟩
    rw [hv2] at hs
    generalize l.getD i 0 = c at *
    generalize valOf (l.take i) = v at *
    have e1 : IntKind.u8.wrap (c - 48) = c - 48 := IntWalk.u8_in _ (by omega)
    have e2 : IntKind.i64.wrap (c - 48) = c - 48 := wrap_i64 (by omega)
    have e3 : IntKind.i64.wrap (10 * v) = 10 * v := wrap_i64 (by omega)
    have e4 : IntKind.i64.wrap (10 * v + (c - 48)) = v2 := by rw [wrap_i64 (by omega)]; omega
    refine ex_run 100 ?_
    simp (maxSteps := 200000) only [h, hpos, hg, hw, e1, e2, e3, e4, push_cast, List.getD_cons_zero, List.getD_cons_succ, List.take_succ_cons, List.take_zero, List.drop_succ_cons, Nat.reduceLT, Nat.reduceLeDiff, Nat.reduceEqDiff, Nat.reduceAdd, Nat.reduceMul, Nat.reduceSub, Int.reduceToNat, Int.reduceLE, Int.reduceLT, Int.reduceEq, Int.reduceAdd, ↓reduceIte, decide_true, decide_false, and_self]
    refine run_back_le (le_mk (l' := [(3, .int .i64 v2), (6, .sl l.length (u8s l)), (7, .int .i64 l.length), (8, .int .i64 ((i + 1 : Nat) : Int))]) (t' := []) (nx' := _) ⟨.refl _, .refl _, .refl _, .of_eq (congrArg (AV.int .i64) (by omega)), trivial⟩ trivial (Nat.le_refl _)) ?_
    exact ⟨l.length - (i + 1), by omega, i + 1, _, by omega, rfl, by rw [hv2]⟩
  · have : i = l.length := by omega
    subst this
    refine ex_run 100 ?_
    simp (maxSteps := 200000) only [h, push_cast, List.getD_cons_zero, List.getD_cons_succ, List.take_succ_cons, List.take_zero, List.drop_succ_cons, Nat.reduceLT, Nat.reduceLeDiff, Nat.reduceEqDiff, Nat.reduceAdd, Nat.reduceMul, Nat.reduceSub, Int.reduceToNat, Int.reduceLE, Int.reduceLT, Int.reduceEq, Int.reduceAdd, ↓reduceIte, decide_true, decide_false, and_self]
    exact ⟨_, _, rfl, rfl, .of_eq (by rw [List.take_length]; rfl), rfl⟩
set_option maxRecDepth 100000 in
set_option maxHeartbeats 4000000 in
theorem Sound_c (l : List Int) (hl : l.length ≤ 9223372036854775807) : ACall Tryd.prog 48 [.str l] (.bool (soundL l)) none := by
  refine acall_intro none Tryd.func48 rfl (by kernel_rfl) (by simp [Tryd.f48]) ?_
  refine ex_run 100 ?_
  simp (maxSteps := 200000) only [Tryd.f48, push_cast, List.getD_cons_zero, List.getD_cons_succ, List.take_succ_cons, List.take_zero, List.drop_succ_cons, Nat.reduceLT, Nat.reduceLeDiff, Nat.reduceEqDiff, Nat.reduceAdd, Nat.reduceMul, Nat.reduceSub, Int.reduceToNat, Int.reduceLE, Int.reduceLT, Int.reduceEq, Int.reduceAdd, ↓reduceIte, decide_true, decide_false, and_self]
  refine run_keep (l' := [(0, .str l), (2, .bool false), (5, .int .i64 l.length), (6, .int .i64 (0 : Nat))]) (t' := []) (nx' := _) ⟨.refl _, .refl _, .refl _, .refl _, trivial⟩ trivial (Nat.le_refl _) ?_
  refine run_loop (fun n s => ∃ (i nx : Nat), i ≤ l.length ∧ n = l.length - i ∧ (l.length = 24 → sndFrom l 0 = sndFrom (l.drop i) i) ∧ s = mkS [(0, .str l), (2, .bool false), (5, .int .i64 l.length), (6, .int .i64 i)] [] nx) _ ⟨0, _, Nat.zero_le _, rfl, fun _ => rfl, rfl⟩ ?_
  rintro n s ⟨i, nx, hi, rfl, hs, rfl⟩
  by_cases h : i < l.length
  · have hw : IntKind.i64.wrap ((i : Int) + 1) = ((i + 1 : Nat) : Int) := by rw [wrap_i64 (by omega)]; omega
    have hsd := sndFrom_drop h
    by_cases h24 : i < 24
    · have h24' : (i : Int) < 24 := by omega
      refine ex_run 100 ?_
      simp (maxSteps := 200000) only [h, h24', push_cast, List.getD_cons_zero, List.getD_cons_succ, List.take_succ_cons, List.take_zero, List.drop_succ_cons, Nat.reduceLT, Nat.reduceLeDiff, Nat.reduceEqDiff, Nat.reduceAdd, Nat.reduceMul, Nat.reduceSub, Int.reduceToNat, Int.reduceLE, Int.reduceLT, Int.reduceEq, Int.reduceAdd, ↓reduceIte, decide_true, decide_false, and_self]
      refine call_intro (lgood_c i (l.getD i 0) true) (fun h => by cases h) ?_
      cases hq : ledB i (l.getD i 0) true with
      | true =>
        simp (maxSteps := 200000) only [hw, push_cast, List.getD_cons_zero, List.getD_cons_succ, List.take_succ_cons, List.take_zero, List.drop_succ_cons, Nat.reduceLT, Nat.reduceLeDiff, Nat.reduceEqDiff, Nat.reduceAdd, Nat.reduceMul, Nat.reduceSub, Int.reduceToNat, Int.reduceLE, Int.reduceLT, Int.reduceEq, Int.reduceAdd, ↓reduceIte, decide_true, decide_false, and_self]
        refine run_back_le (le_mk (l' := [(0, .str l), (2, .bool false), (5, .int .i64 l.length), (6, .int .i64 ((i + 1 : Nat) : Int))]) (t' := []) (nx' := _) ⟨.refl _, .refl _, .refl _, .of_eq (congrArg (AV.int .i64) (by omega)), trivial⟩ trivial (Nat.le_refl _)) ?_
        exact ⟨l.length - (i + 1), by omega, i + 1, _, by omega, rfl, fun e => by rw [hs e, hsd, hq]; rfl, rfl⟩
      | false =>
        simp (maxSteps := 200000) only [push_cast, List.getD_cons_zero, List.getD_cons_succ, List.take_succ_cons, List.take_zero, List.drop_succ_cons, Nat.reduceLT, Nat.reduceLeDiff, Nat.reduceEqDiff, Nat.reduceAdd, Nat.reduceMul, Nat.reduceSub, Int.reduceToNat, Int.reduceLE, Int.reduceLT, Int.reduceEq, Int.reduceAdd, ↓reduceIte, decide_true, decide_false, and_self]
        have e : soundL l = false := by
          unfold soundL
          by_cases e : l.length = 24
          · rw [hs e, hsd, hq]; simp
          · rw [decide_eq_false e]; rfl
        exact ⟨_, _, rfl, rfl, .of_eq (by rw [e]; rfl), rfl⟩
    · have h24' : ¬ (i : Int) < 24 := by omega
      refine ex_run 100 ?_
      simp (maxSteps := 200000) only [h, h24', hw, push_cast, List.getD_cons_zero, List.getD_cons_succ, List.take_succ_cons, List.take_zero, List.drop_succ_cons, Nat.reduceLT, Nat.reduceLeDiff, Nat.reduceEqDiff, Nat.reduceAdd, Nat.reduceMul, Nat.reduceSub, Int.reduceToNat, Int.reduceLE, Int.reduceLT, Int.reduceEq, Int.reduceAdd, ↓reduceIte, decide_true, decide_false, and_self]
      refine run_back_le (le_mk (l' := [(0, .str l), (2, .bool false), (5, .int .i64 l.length), (6, .int .i64 ((i + 1 : Nat) : Int))]) (t' := []) (nx' := _) ⟨.refl _, .refl _, .refl _, .of_eq (congrArg (AV.int .i64) (by omega)), trivial⟩ trivial (Nat.le_refl _)) ?_
      exact ⟨l.length - (i + 1), by omega, i + 1, _, by omega, rfl, fun e => by omega, rfl⟩
  · refine ex_run 100 ?_
    simp (maxSteps := 200000) only [h, push_cast, List.getD_cons_zero, List.getD_cons_succ, List.take_succ_cons, List.take_zero, List.drop_succ_cons, Nat.reduceLT, Nat.reduceLeDiff, Nat.reduceEqDiff, Nat.reduceAdd, Nat.reduceMul, Nat.reduceSub, Int.reduceToNat, Int.reduceLE, Int.reduceLT, Int.reduceEq, Int.reduceAdd, ↓reduceIte, decide_true, decide_false, and_self]
    have e : soundL l = decide (l.length = 24) := by
      unfold soundL
      by_cases e : l.length = 24
      · rw [hs e, List.drop_of_length_le (by omega)]; simp [sndFrom]
      · rw [decide_eq_false e]; rfl
    exact ⟨_, _, rfl, rfl, .of_eq (by rw [e]; simp [pack, mkS_env, lkF]; omega), rfl⟩
def lfault (a : Int) : AV := .agg [.int .i64 10, .int .i64 a]
def okF : AV := .agg [.int .i64 0, .int .i64 0]
def lres (b : List Int) : AV := if ledAt b < 24 then .tup [.int .i64 0, .int .i64 0, lfault (ledAt b)] else .tup [.int .i64 (valOf (b.take 5)), .int .i64 (valOf ((b.drop 12).take 5)), okF]
set_option maxRecDepth 100000 in
set_option maxHeartbeats 4000000 in
theorem LParse_c (l : List Int) (hl : l.length ≤ 9223372036854775807) : ACall Tryd.prog 60 [.sl l.length (u8s l)] (lres l) none := by
  obtain ⟨k, hk, hk1⟩ : ∃ k : Nat, (if (24 : Int) < (l.length : Int) then (24 : Int) else (l.length : Int)) = ((k : Nat) : Int) ∧ k = min 24 l.length := by
    by_cases h : (24 : Int) < (l.length : Int)
    · exact ⟨24, by rw [if_pos h]; rfl, by omega⟩
    · exact ⟨l.length, by rw [if_neg h], by omega⟩
  have hkl : k ≤ l.length := by omega
  have hml : (l.take k).length = k := by rw [List.length_take]; omega
  have hla : ledAt l = ledFrom (l.take k) 0 := by
    unfold ledAt; congr 1; rw [hk1]
    by_cases h : l.length ≤ 24
    · rw [Nat.min_eq_right h, List.take_of_length_le h, List.take_of_length_le (Nat.le_refl _)]
    · rw [Nat.min_eq_left (by omega)]
  refine acall_intro none Tryd.func60 rfl (by kernel_rfl) (by simp [Tryd.f60]) ?_
  refine ex_run 100 ?_
  simp (maxSteps := 200000) only [Tryd.f60, hk, push_cast, List.getD_cons_zero, List.getD_cons_succ, List.take_succ_cons, List.take_zero, List.drop_succ_cons, Nat.reduceLT, Nat.reduceLeDiff, Nat.reduceEqDiff, Nat.reduceAdd, Nat.reduceMul, Nat.reduceSub, Int.reduceToNat, Int.reduceLE, Int.reduceLT, Int.reduceEq, Int.reduceAdd, ↓reduceIte, decide_true, decide_false, and_self]
  refine ⟨by omega, ?_⟩
  generalize hm : l.take k = m at *
  refine run_keep (l' := [(0, .sl l.length (u8s l)), (4, .addr 4 2 0), (11, .sl k (u8s m)), (12, .int .i64 k), (13, .int .i64 (0 : Nat))]) (t' := [(4, ⟨2, 1, [.int .i64 0, .int .i64 0]⟩)]) (nx' := _) ⟨.refl _, .refl _, .refl _, .refl _, .refl _, trivial⟩ ⟨⟨_, rfl, rfl, rfl, SubL.refl _⟩, trivial⟩ (Nat.le_refl _) ?_
  refine run_loop (fun n s => ∃ (i nx : Nat), i ≤ k ∧ n = k - i ∧ ledAt l = ledFrom (m.drop i) i ∧ s = mkS [(0, .sl l.length (u8s l)), (4, .addr 4 2 0), (11, .sl k (u8s m)), (12, .int .i64 k), (13, .int .i64 i)] [(4, ⟨2, 1, [.int .i64 0, .int .i64 0]⟩)] nx) _ ⟨0, _, Nat.zero_le _, rfl, hla, rfl⟩ ?_
  rintro n s ⟨i, nx, hi, rfl, hs, rfl⟩
  by_cases h : i < k
  · have hw : IntKind.i64.wrap ((i : Int) + 1) = ((i + 1 : Nat) : Int) := by rw [wrap_i64 (by omega)]; omega
    have hsd := ledFrom_drop (l := m) (i := i) (by omega)
    have hg := u8s_getD m i (by omega)
    have hpos : 0 < k := by omega
    generalize m.getD i 0 = c at *
    refine ex_run 100 ?_
    simp (maxSteps := 200000) only [h, hg, hpos, hml, push_cast, List.getD_cons_zero, List.getD_cons_succ, List.take_succ_cons, List.take_zero, List.drop_succ_cons, Nat.reduceLT, Nat.reduceLeDiff, Nat.reduceEqDiff, Nat.reduceAdd, Nat.reduceMul, Nat.reduceSub, Int.reduceToNat, Int.reduceLE, Int.reduceLT, Int.reduceEq, Int.reduceAdd, ↓reduceIte, decide_true, decide_false, and_self]
    refine call_intro (lgood_c i c false) (fun h => by cases h) ?_
    cases hq : ledB i c false with
    | true =>
      simp (maxSteps := 200000) only [hw, push_cast, List.getD_cons_zero, List.getD_cons_succ, List.take_succ_cons, List.take_zero, List.drop_succ_cons, Nat.reduceLT, Nat.reduceLeDiff, Nat.reduceEqDiff, Nat.reduceAdd, Nat.reduceMul, Nat.reduceSub, Int.reduceToNat, Int.reduceLE, Int.reduceLT, Int.reduceEq, Int.reduceAdd, ↓reduceIte, decide_true, decide_false, and_self]
      refine run_back_le (le_mk (l' := [(0, .sl l.length (u8s l)), (4, .addr 4 2 0), (11, .sl k (u8s m)), (12, .int .i64 k), (13, .int .i64 ((i + 1 : Nat) : Int))]) (t' := [(4, ⟨2, 1, [.int .i64 0, .int .i64 0]⟩)]) (nx' := _) ⟨.refl _, .refl _, .refl _, .refl _, .of_eq (congrArg (AV.int .i64) (by omega)), trivial⟩ ⟨⟨_, rfl, rfl, rfl, SubL.refl _⟩, trivial⟩ (Nat.le_refl _)) ?_
      exact ⟨k - (i + 1), by omega, i + 1, _, by omega, rfl, by rw [hs, hsd, hq]; rfl, rfl⟩
    | false =>
      simp (maxSteps := 200000) only [push_cast, List.getD_cons_zero, List.getD_cons_succ, List.take_succ_cons, List.take_zero, List.drop_succ_cons, Nat.reduceLT, Nat.reduceLeDiff, Nat.reduceEqDiff, Nat.reduceAdd, Nat.reduceMul, Nat.reduceSub, Int.reduceToNat, Int.reduceLE, Int.reduceLT, Int.reduceEq, Int.reduceAdd, ↓reduceIte, decide_true, decide_false, and_self]
      have e : ledAt l = i := by rw [hs, hsd, hq]; rfl
      exact ⟨_, _, rfl, rfl, .of_eq (by unfold lres; rw [e, if_pos (by omega)]; rfl), rfl⟩
  · have hik : i = k := by omega
    have e : ledAt l = k := by rw [hs, hik, List.drop_of_length_le (by omega)]; rfl
    by_cases h24 : l.length < 24
    · have h24' : (l.length : Int) < 24 := by omega
      refine ex_run 100 ?_
      simp (maxSteps := 200000) only [h, h24', push_cast, List.getD_cons_zero, List.getD_cons_succ, List.take_succ_cons, List.take_zero, List.drop_succ_cons, Nat.reduceLT, Nat.reduceLeDiff, Nat.reduceEqDiff, Nat.reduceAdd, Nat.reduceMul, Nat.reduceSub, Int.reduceToNat, Int.reduceLE, Int.reduceLT, Int.reduceEq, Int.reduceAdd, ↓reduceIte, decide_true, decide_false, and_self]
      exact ⟨_, _, rfl, rfl, .of_eq (by unfold lres; rw [e, if_pos (by omega), show ((k : Nat) : Int) = l.length by omega]; rfl), rfl⟩
    · have h24' : ¬ (l.length : Int) < 24 := by omega
      obtain ⟨d1, d2⟩ := led_digits (b := l) (by omega)
      have n1 : (l.take 5).length = 5 := by rw [List.length_take]; omega
      have n2 : ((l.drop 12).take 5).length = 5 := by rw [List.length_take, List.length_drop]; omega
      have e2 : (l.take 17).drop 12 = (l.drop 12).take 5 := by rw [List.drop_take]
      have l5 : (5 : Int) ≤ (l.length : Int) := by omega
      have l17 : (17 : Int) ≤ (l.length : Int) := by omega
      refine ex_run 100 ?_
      simp (maxSteps := 200000) only [h, h24', e2, l5, l17, push_cast, List.getD_cons_zero, List.getD_cons_succ, List.take_succ_cons, List.take_zero, List.drop_succ_cons, Nat.reduceLT, Nat.reduceLeDiff, Nat.reduceEqDiff, Nat.reduceAdd, Nat.reduceMul, Nat.reduceSub, Int.reduceToNat, Int.reduceLE, Int.reduceLT, Int.reduceEq, Int.reduceAdd, ↓reduceIte, decide_true, decide_false, and_self]
      refine ⟨by kernel_rfl, ?_⟩
      refine call_introF (value_c (l.take 5) _ n1 (by omega) d1) (fun h => by cases h) ?_
      generalize hv1 : valOf (l.take 5) = v1 at *
      simp (maxSteps := 200000) only [h, h24', e2, l5, l17, push_cast, List.getD_cons_zero, List.getD_cons_succ, List.take_succ_cons, List.take_zero, List.drop_succ_cons, Nat.reduceLT, Nat.reduceLeDiff, Nat.reduceEqDiff, Nat.reduceAdd, Nat.reduceMul, Nat.reduceSub, Int.reduceToNat, Int.reduceLE, Int.reduceLT, Int.reduceEq, Int.reduceAdd, ↓reduceIte, decide_true, decide_false, and_self]
      refine call_introF (value_c ((l.drop 12).take 5) _ n2 (by omega) d2) (fun h => by cases h) ?_
      generalize hv2 : valOf ((l.drop 12).take 5) = v2 at *
      simp (maxSteps := 200000) only [h, h24', e2, l5, l17, push_cast, List.getD_cons_zero, List.getD_cons_succ, List.take_succ_cons, List.take_zero, List.drop_succ_cons, Nat.reduceLT, Nat.reduceLeDiff, Nat.reduceEqDiff, Nat.reduceAdd, Nat.reduceMul, Nat.reduceSub, Int.reduceToNat, Int.reduceLE, Int.reduceLT, Int.reduceEq, Int.reduceAdd, ↓reduceIte, decide_true, decide_false, and_self]
      refine ⟨okTr_of (by kernel_rfl), ?_⟩
      exact ⟨_, _, rfl, rfl, .of_eq (by unfold lres; rw [e, if_neg (by omega), hv1, hv2]; rfl), rfl⟩
end Go.Proofs.YteapibifebnboaaDoor

/- leader: five digits, a leader with other numbers; ref19.Leader -/
set_option linter.unusedVariables false
set_option linter.unusedSimpArgs false
namespace Go.Proofs.YteapibifebnboaaDoor
open Go Go.Eng
set_option maxRecDepth 100000 in
set_option maxHeartbeats 4000000 in
theorem Five_c (n : Int) (hn : 0 ≤ n ∧ n ≤ 9223372036854775807) : ACall Tryd.prog 70 [.int .i64 n] (.str (fixedL 5 n)) none := by
  have hz : zrep [.int .u8 0] 5 = List.replicate 5 (.int .u8 0) := rfl
  refine acall_intro none Tryd.func70 rfl (by kernel_rfl) (by simp [Tryd.f70]) ?_
  refine ex_run 30 ?_
  simp (maxSteps := 200000) only [Tryd.f70, hz, push_cast, List.getD_cons_zero, List.getD_cons_succ, List.take_succ_cons, List.take_zero, List.drop_succ_cons, Nat.reduceLT, Nat.reduceLeDiff, Nat.reduceEqDiff, Nat.reduceAdd, Nat.reduceMul, Nat.reduceSub, Int.reduceToNat, Int.reduceLE, Int.reduceLT, Int.reduceEq, Int.reduceAdd, ↓reduceIte, decide_true, decide_false, and_self]
  refine ⟨by decide, ?_⟩
  refine run_keep (l' := [(0, .int .i64 n), (3, .own 5 1 0 5), (4, .int .i64 ((5 : Nat) - 1 : Int))]) (t' := [(5, ⟨1, 1, List.replicate 5 (.int .u8 0)⟩)]) (nx' := _) ⟨.refl _, .refl _, .refl _, trivial⟩ ⟨⟨_, rfl, rfl, rfl, SubL.refl _⟩, trivial⟩ (Nat.le_refl _) ?_
  refine run_loop (fun v s => ∃ (j nx : Nat) (m : Int) (tail : List Int), j ≤ 5 ∧ v = j ∧ 0 ≤ m ∧ m ≤ 9223372036854775807 ∧ fixedL j m ++ tail = fixedL 5 n ∧ s = mkS [(0, .int .i64 m), (3, .own 5 1 0 5), (4, .int .i64 ((j : Nat) - 1 : Int))] [(5, ⟨1, 1, List.replicate j (.int .u8 0) ++ u8s tail⟩)] nx) _ ⟨5, _, n, [], Nat.le_refl _, rfl, hn.1, hn.2, List.append_nil _, by simp [u8s]; rfl⟩ ?_
  rintro j s ⟨_, nx, m, tail, hj, rfl, hm0, hm1, hfix, rfl⟩
  have htl : tail.length = 5 - j := by
    have := congrArg List.length hfix
    rw [List.length_append, fixedL_length, fixedL_length] at this; omega
  cases j with
  | zero =>
    rw [show (((0 : Nat) : Int) - 1) = -1 from rfl]
    have hb : u8n tail = tail := u8n_eq fun c hc => fixedL_bytes 5 n hn.1 c (by rw [← hfix]; exact List.mem_append_right _ hc)
    have htk : List.take 5 tail = tail := List.take_of_length_le (by omega)
    refine ex_run 30 ?_
    simp (maxSteps := 200000) only [List.replicate_zero, htk, hb, push_cast, List.getD_cons_zero, List.getD_cons_succ, List.take_succ_cons, List.take_zero, List.drop_succ_cons, Nat.reduceLT, Nat.reduceLeDiff, Nat.reduceEqDiff, Nat.reduceAdd, Nat.reduceMul, Nat.reduceSub, Int.reduceToNat, Int.reduceLE, Int.reduceLT, Int.reduceEq, Int.reduceAdd, ↓reduceIte, decide_true, decide_false, and_self]
    refine ⟨by omega, ?_⟩
    have e : tail = fixedL 5 n := by rw [← hfix]; rfl
    exact ⟨_, _, rfl, rfl, .of_eq (by rw [e]; rfl), rfl⟩
  | succ j =>
    have e0 : (((j + 1 : Nat) : Int) - 1) = (j : Int) := by omega
    rw [e0]
    have h1 : (0 : Int) ≤ (j : Int) := by omega
    have h2 : (j : Int) < 5 := by omega
    have e1 : m.tmod 10 = m % 10 := Int.tmod_eq_emod_of_nonneg hm0
    have e2 : m.tdiv 10 = m / 10 := Int.tdiv_eq_ediv_of_nonneg hm0
    have w2 : IntKind.i64.wrap (48 + m % 10) = 48 + m % 10 := wrap_i64 (by omega)
    have w3 : IntKind.u8.wrap (48 + m % 10) = 48 + m % 10 := IntWalk.u8_in _ (by omega)
    have w4 : IntKind.i64.wrap (m / 10) = m / 10 := wrap_i64 (by omega)
    have w5 : IntKind.i64.wrap ((j : Int) - 1) = (j : Int) - 1 := wrap_i64 (by omega)
    have hlen : (List.replicate (j + 1) (AV.int .u8 0) ++ u8s tail).length = 5 := by rw [List.length_append, List.length_replicate, u8s_length]; omega
    have hset : (List.replicate (j + 1) (AV.int .u8 0) ++ u8s tail).set j (.int .u8 (48 + m % 10)) = List.replicate j (.int .u8 0) ++ u8s ((48 + m % 10) :: tail) := rep_set j _ _ _
    have hle : j + 1 ≤ 5 := by omega
    refine ex_run 30 ?_
    simp (maxSteps := 200000) only [h1, h2, e1, e2, w2, w3, w4, w5, hlen, hset, hle, push_cast, List.getD_cons_zero, List.getD_cons_succ, List.take_succ_cons, List.take_zero, List.drop_succ_cons, Nat.reduceLT, Nat.reduceLeDiff, Nat.reduceEqDiff, Nat.reduceAdd, Nat.reduceMul, Nat.reduceSub, Int.reduceToNat, Int.reduceLE, Int.reduceLT, Int.reduceEq, Int.reduceAdd, ↓reduceIte, decide_true, decide_false, and_self]
    refine ⟨by decide, by decide, ?_⟩
    refine run_back_le (le_mk (l' := [(0, .int .i64 (m / 10)), (3, .own 5 1 0 5), (4, .int .i64 ((j : Int) - 1))]) (t' := [(5, ⟨1, 1, List.replicate j (.int .u8 0) ++ u8s ((48 + m % 10) :: tail)⟩)]) (nx' := _)
      ⟨.refl _, .refl _, .refl _, trivial⟩ ⟨⟨_, rfl, rfl, rfl, SubL.refl _⟩, trivial⟩ (Nat.le_refl _)) ?_
    exact ⟨j, by omega, j, _, m / 10, (48 + m % 10) :: tail, by omega, rfl, by omega, by omega, by rw [← hfix, fixedL, List.append_assoc]; rfl, rfl⟩
def leadB (lead : List Int) (length base : Int) : List Int := fixedL 5 length ++ (lead.drop 5).take 7 ++ fixedL 5 base ++ lead.drop 17
theorem soundL_len {l : List Int} (h : soundL l = true) : l.length = 24 := by
  unfold soundL at h; rw [Bool.and_eq_true] at h; exact of_decide_eq_true h.1
theorem leadB_len {l : List Int} (h : soundL l = true) (a b : Int) : (leadB l a b).length = 24 := by
  have := soundL_len h
  unfold leadB
  rw [List.length_append, List.length_append, List.length_append, fixedL_length, fixedL_length, List.length_take, List.length_drop, List.length_drop]
  omega
set_option maxRecDepth 100000 in
set_option maxHeartbeats 4000000 in
theorem LPrint_bad (l : List Int) (a b : Int) (hl : l.length ≤ 9223372036854775807) (ha : 0 ≤ a) (hb : 0 ≤ b) (h : soundL l = false ∨ 99999 < a ∨ 99999 < b) : ACall Tryd.prog 50 [.str l, .int .i64 a, .int .i64 b] (.tup [.nilS, .bool false]) none := by
  refine acall_intro none Tryd.func50 rfl (by kernel_rfl) (by simp [Tryd.f50]) ?_
  have na : ¬ a < 0 := by omega
  have nb : ¬ b < 0 := by omega
  refine ex_run 100 ?_
  simp (maxSteps := 200000) only [Tryd.f50, push_cast, List.getD_cons_zero, List.getD_cons_succ, List.take_succ_cons, List.take_zero, List.drop_succ_cons, Nat.reduceLT, Nat.reduceLeDiff, Nat.reduceEqDiff, Nat.reduceAdd, Nat.reduceMul, Nat.reduceSub, Int.reduceToNat, Int.reduceLE, Int.reduceLT, Int.reduceEq, Int.reduceAdd, ↓reduceIte, decide_true, decide_false, and_self]
  refine call_intro (Sound_c l hl) (fun h => by cases h) ?_
  cases hs : soundL l with
  | false =>
    simp (maxSteps := 200000) only [push_cast, List.getD_cons_zero, List.getD_cons_succ, List.take_succ_cons, List.take_zero, List.drop_succ_cons, Nat.reduceLT, Nat.reduceLeDiff, Nat.reduceEqDiff, Nat.reduceAdd, Nat.reduceMul, Nat.reduceSub, Int.reduceToNat, Int.reduceLE, Int.reduceLT, Int.reduceEq, Int.reduceAdd, ↓reduceIte, decide_true, decide_false, and_self]
    exact ⟨_, _, rfl, rfl, .refl _, rfl⟩
  | true =>
    by_cases h1 : 99999 < a
    · simp (maxSteps := 200000) only [h1, na, push_cast, List.getD_cons_zero, List.getD_cons_succ, List.take_succ_cons, List.take_zero, List.drop_succ_cons, Nat.reduceLT, Nat.reduceLeDiff, Nat.reduceEqDiff, Nat.reduceAdd, Nat.reduceMul, Nat.reduceSub, Int.reduceToNat, Int.reduceLE, Int.reduceLT, Int.reduceEq, Int.reduceAdd, ↓reduceIte, decide_true, decide_false, and_self]
      exact ⟨_, _, rfl, rfl, .refl _, rfl⟩
    · have h2 : 99999 < b := by rcases h with h | h | h; · rw [hs] at h; cases h
                                · exact absurd h h1
                                · exact h
      simp (maxSteps := 200000) only [h1, h2, na, nb, push_cast, List.getD_cons_zero, List.getD_cons_succ, List.take_succ_cons, List.take_zero, List.drop_succ_cons, Nat.reduceLT, Nat.reduceLeDiff, Nat.reduceEqDiff, Nat.reduceAdd, Nat.reduceMul, Nat.reduceSub, Int.reduceToNat, Int.reduceLE, Int.reduceLT, Int.reduceEq, Int.reduceAdd, ↓reduceIte, decide_true, decide_false, and_self]
      exact ⟨_, _, rfl, rfl, .refl _, rfl⟩
set_option maxRecDepth 100000 in
set_option maxHeartbeats 4000000 in
theorem LPrint_ok (l : List Int) (a b : Int) (ha : 0 ≤ a ∧ a ≤ 99999) (hb : 0 ≤ b ∧ b ≤ 99999) (hs : soundL l = true) : ACall Tryd.prog 50 [.str l, .int .i64 a, .int .i64 b] (.tup [.own 0 0 0 24, .bool true]) (some ⟨0, 1, u8s (leadB l a b)⟩) := by
  have hl := soundL_len hs
  refine acall_intro (some 38) Tryd.func50 rfl (by kernel_rfl) (by simp [Tryd.f50]) ?_
  have na : ¬ a < 0 := by omega
  have nb : ¬ b < 0 := by omega
  have na2 : ¬ 99999 < a := by omega
  have nb2 : ¬ 99999 < b := by omega
  have hlb := leadB_len hs a b
  refine ex_run 100 ?_
  simp (maxSteps := 200000) only [Tryd.f50, push_cast, List.getD_cons_zero, List.getD_cons_succ, List.take_succ_cons, List.take_zero, List.drop_succ_cons, Nat.reduceLT, Nat.reduceLeDiff, Nat.reduceEqDiff, Nat.reduceAdd, Nat.reduceMul, Nat.reduceSub, Int.reduceToNat, Int.reduceLE, Int.reduceLT, Int.reduceEq, Int.reduceAdd, ↓reduceIte, decide_true, decide_false, and_self]
  refine call_intro (Sound_c l (by omega)) (fun h => by cases h) ?_
  rw [hs]
  simp (maxSteps := 200000) only [na, nb, na2, nb2, push_cast, List.getD_cons_zero, List.getD_cons_succ, List.take_succ_cons, List.take_zero, List.drop_succ_cons, Nat.reduceLT, Nat.reduceLeDiff, Nat.reduceEqDiff, Nat.reduceAdd, Nat.reduceMul, Nat.reduceSub, Int.reduceToNat, Int.reduceLE, Int.reduceLT, Int.reduceEq, Int.reduceAdd, ↓reduceIte, decide_true, decide_false, and_self]
  refine ⟨by kernel_rfl, ?_⟩
  refine call_introF (Five_c a (by omega)) (fun h => by cases h) ?_
  have l1 := fixedL_length 5 a
  have l2 := fixedL_length 5 b
  have l3 : (List.drop 5 (List.take 12 l)).length = 7 := by rw [List.length_drop, List.length_take, hl]; rfl
  have l4 : (List.drop 17 l).length = 7 := by rw [List.length_drop, hl]
  generalize hf1 : fixedL 5 a = f1 at *
  simp (maxSteps := 200000) only [hl, push_cast, List.getD_cons_zero, List.getD_cons_succ, List.take_succ_cons, List.take_zero, List.drop_succ_cons, Nat.reduceLT, Nat.reduceLeDiff, Nat.reduceEqDiff, Nat.reduceAdd, Nat.reduceMul, Nat.reduceSub, Int.reduceToNat, Int.reduceLE, Int.reduceLT, Int.reduceEq, Int.reduceAdd, ↓reduceIte, decide_true, decide_false, and_self]
  refine ⟨by omega, ?_⟩
  refine call_introF (Five_c b (by omega)) (fun h => by cases h) ?_
  generalize hf2 : fixedL 5 b = f2 at *
  simp (maxSteps := 200000) only [hl, push_cast, List.getD_cons_zero, List.getD_cons_succ, List.take_succ_cons, List.take_zero, List.drop_succ_cons, Nat.reduceLT, Nat.reduceLeDiff, Nat.reduceEqDiff, Nat.reduceAdd, Nat.reduceMul, Nat.reduceSub, Int.reduceToNat, Int.reduceLE, Int.reduceLT, Int.reduceEq, Int.reduceAdd, ↓reduceIte, decide_true, decide_false, and_self]
  have e1 : List.drop 5 (List.take 12 l) = (l.drop 5).take 7 := by rw [List.drop_take]
  have e2 : List.drop 17 (List.take 24 l) = l.drop 17 := by rw [List.take_of_length_le (by omega)]
  have e : f1 ++ List.drop 5 (List.take 12 l) ++ f2 ++ List.drop 17 (List.take 24 l) = leadB l a b := by unfold leadB; rw [hf1, hf2, e1, e2]
  rw [e]
  refine ⟨by simp only [List.length_append]; omega, by simp only [List.length_append, e2]; omega, okTr_of (by kernel_rfl), ?_⟩
  rw [hlb]
  exact ⟨_, [.own 0 0 0 24, .bool true], rfl, by simp [outA, outV, outC, mkS_env, mkS_tk, lkF, lkG, AV.closed], .refl _, ⟨_, rfl, u8s_closed _, rfl⟩⟩
set_option maxRecDepth 100000 in
set_option maxHeartbeats 4000000 in
theorem rleader_c (l : List Int) (hl : l.length ≤ 9223372036854775807) (hb : ∀ c ∈ l, 0 ≤ c ∧ c < 256) : ACall Tryd.prog 33 [.sl l.length (u8s l)] (lres l) none := by
  refine acall_intro none Tryd.func33 rfl (by kernel_rfl) (by simp [Tryd.f33]) ?_
  refine ex_run 100 ?_
  simp (maxSteps := 200000) only [Tryd.f33, push_cast, List.getD_cons_zero, List.getD_cons_succ, List.take_succ_cons, List.take_zero, List.drop_succ_cons, Nat.reduceLT, Nat.reduceLeDiff, Nat.reduceEqDiff, Nat.reduceAdd, Nat.reduceMul, Nat.reduceSub, Int.reduceToNat, Int.reduceLE, Int.reduceLT, Int.reduceEq, Int.reduceAdd, ↓reduceIte, decide_true, decide_false, and_self]
  refine run_keep (l' := [(0, .sl l.length (u8s l)), (4, .addr 4 2 0), (5, .int .i64 (0 : Nat))]) (t' := [(4, ⟨2, 1, [.int .i64 0, .int .i64 0]⟩)]) (nx' := _) ⟨.refl _, .refl _, .refl _, trivial⟩ ⟨⟨_, rfl, rfl, rfl, SubL.refl _⟩, trivial⟩ (Nat.le_refl _) ?_
  refine run_loop (fun n s => ∃ (i nx : Nat), i ≤ 24 ∧ i ≤ l.length ∧ n = 24 - i ∧ ledAt l = ledFrom ((l.take 24).drop i) i ∧ s = mkS [(0, .sl l.length (u8s l)), (4, .addr 4 2 0), (5, .int .i64 i)] [(4, ⟨2, 1, [.int .i64 0, .int .i64 0]⟩)] nx) _ ⟨0, _, Nat.zero_le _, Nat.zero_le _, rfl, rfl, rfl⟩ ?_
  rintro n s ⟨i, nx, hi, hil, rfl, hs, rfl⟩
  by_cases h : i < 24
  · have h' : (i : Int) < 24 := by omega
    by_cases he : i = l.length
    · have he' : (i : Int) = (l.length : Int) := by omega
      have hl24 : (l.length : Int) < 24 := by omega
      refine ex_run 100 ?_
      simp (maxSteps := 200000) only [h', he', hl24, push_cast, List.getD_cons_zero, List.getD_cons_succ, List.take_succ_cons, List.take_zero, List.drop_succ_cons, Nat.reduceLT, Nat.reduceLeDiff, Nat.reduceEqDiff, Nat.reduceAdd, Nat.reduceMul, Nat.reduceSub, Int.reduceToNat, Int.reduceLE, Int.reduceLT, Int.reduceEq, Int.reduceAdd, ↓reduceIte, decide_true, decide_false, and_self]
      have e : ledAt l = l.length := by rw [hs, List.drop_of_length_le (by rw [List.length_take]; omega), he]; rfl
      exact ⟨_, _, rfl, rfl, .of_eq (by unfold lres; rw [e, if_pos (by omega)]; rfl), rfl⟩
    · have he' : ¬ (i : Int) = (l.length : Int) := by omega
      have hw : IntKind.i64.wrap ((i : Int) + 1) = ((i + 1 : Nat) : Int) := by rw [wrap_i64 (by omega)]; omega
      have hsd := ledFrom_drop (l := l.take 24) (i := i) (by rw [List.length_take]; omega)
      rw [show (l.take 24).getD i 0 = l.getD i 0 by rw [List.getD_eq_getElem?_getD, List.getD_eq_getElem?_getD, List.getElem?_take, if_pos h]] at hsd
      have hil' : i < l.length := by omega
      have hg := u8s_getD l i hil'
      have hpos : 0 < l.length := by omega
      generalize l.getD i 0 = c at *
      refine ex_run 100 ?_
      simp (maxSteps := 200000) only [h', he', hil', hg, hpos, push_cast, List.getD_cons_zero, List.getD_cons_succ, List.take_succ_cons, List.take_zero, List.drop_succ_cons, Nat.reduceLT, Nat.reduceLeDiff, Nat.reduceEqDiff, Nat.reduceAdd, Nat.reduceMul, Nat.reduceSub, Int.reduceToNat, Int.reduceLE, Int.reduceLT, Int.reduceEq, Int.reduceAdd, ↓reduceIte, decide_true, decide_false, and_self]
      refine call_intro (rat_c i c false) (fun h => by cases h) ?_
      cases hq : ledB i c false with
      | true =>
        simp (maxSteps := 200000) only [hw, push_cast, List.getD_cons_zero, List.getD_cons_succ, List.take_succ_cons, List.take_zero, List.drop_succ_cons, Nat.reduceLT, Nat.reduceLeDiff, Nat.reduceEqDiff, Nat.reduceAdd, Nat.reduceMul, Nat.reduceSub, Int.reduceToNat, Int.reduceLE, Int.reduceLT, Int.reduceEq, Int.reduceAdd, ↓reduceIte, decide_true, decide_false, and_self]
        refine run_back_le (le_mk (l' := [(0, .sl l.length (u8s l)), (4, .addr 4 2 0), (5, .int .i64 ((i + 1 : Nat) : Int))]) (t' := [(4, ⟨2, 1, [.int .i64 0, .int .i64 0]⟩)]) (nx' := _) ⟨.refl _, .refl _, .of_eq (congrArg (AV.int .i64) (by omega)), trivial⟩ ⟨⟨_, rfl, rfl, rfl, SubL.refl _⟩, trivial⟩ (Nat.le_refl _)) ?_
        exact ⟨24 - (i + 1), by omega, i + 1, _, by omega, by omega, rfl, by rw [hs, hsd, hq]; rfl, rfl⟩
      | false =>
        simp (maxSteps := 200000) only [push_cast, List.getD_cons_zero, List.getD_cons_succ, List.take_succ_cons, List.take_zero, List.drop_succ_cons, Nat.reduceLT, Nat.reduceLeDiff, Nat.reduceEqDiff, Nat.reduceAdd, Nat.reduceMul, Nat.reduceSub, Int.reduceToNat, Int.reduceLE, Int.reduceLT, Int.reduceEq, Int.reduceAdd, ↓reduceIte, decide_true, decide_false, and_self]
        have e : ledAt l = i := by rw [hs, hsd, hq]; rfl
        exact ⟨_, _, rfl, rfl, .of_eq (by unfold lres; rw [e, if_pos (by omega)]; rfl), rfl⟩
  · have hik : i = 24 := by omega
    subst hik
    have e : ledAt l = 24 := by rw [hs, List.drop_of_length_le (by rw [List.length_take]; omega)]; rfl
    obtain ⟨d1, d2⟩ := led_digits (b := l) e
    have n1 : (l.take 5).length = 5 := by rw [List.length_take]; omega
    have n2 : ((l.drop 12).take 5).length = 5 := by rw [List.length_take, List.length_drop]; omega
    have e2 : (l.take 17).drop 12 = (l.drop 12).take 5 := by rw [List.drop_take]
    have l5 : (5 : Int) ≤ (l.length : Int) := by omega
    have l17 : (17 : Int) ≤ (l.length : Int) := by omega
    have r1 : rnum (l.take 5) = valOf (l.take 5) := by unfold rnum; rw [if_pos (List.all_eq_true.2 d1)]
    have r2 : rnum ((l.drop 12).take 5) = valOf ((l.drop 12).take 5) := by unfold rnum; rw [if_pos (List.all_eq_true.2 d2)]
    refine ex_run 100 ?_
    simp (maxSteps := 200000) only [e2, l5, l17, push_cast, List.getD_cons_zero, List.getD_cons_succ, List.take_succ_cons, List.take_zero, List.drop_succ_cons, Nat.reduceLT, Nat.reduceLeDiff, Nat.reduceEqDiff, Nat.reduceAdd, Nat.reduceMul, Nat.reduceSub, Int.reduceToNat, Int.reduceLE, Int.reduceLT, Int.reduceEq, Int.reduceAdd, ↓reduceIte, decide_true, decide_false, and_self]
    refine ⟨by kernel_rfl, ?_⟩
    refine call_introF (rnum_c (l.take 5) _ n1 (by omega) fun c hc => hb c (List.mem_of_mem_take hc)) (fun h => by cases h) ?_
    rw [r1]
    generalize hv1 : valOf (l.take 5) = v1 at *
    simp (maxSteps := 200000) only [e2, l5, l17, push_cast, List.getD_cons_zero, List.getD_cons_succ, List.take_succ_cons, List.take_zero, List.drop_succ_cons, Nat.reduceLT, Nat.reduceLeDiff, Nat.reduceEqDiff, Nat.reduceAdd, Nat.reduceMul, Nat.reduceSub, Int.reduceToNat, Int.reduceLE, Int.reduceLT, Int.reduceEq, Int.reduceAdd, ↓reduceIte, decide_true, decide_false, and_self]
    refine call_introF (rnum_c ((l.drop 12).take 5) _ n2 (by omega) fun c hc => hb c (List.mem_of_mem_drop (List.mem_of_mem_take hc))) (fun h => by cases h) ?_
    rw [r2]
    generalize hv2 : valOf ((l.drop 12).take 5) = v2 at *
    simp (maxSteps := 200000) only [e2, l5, l17, push_cast, List.getD_cons_zero, List.getD_cons_succ, List.take_succ_cons, List.take_zero, List.drop_succ_cons, Nat.reduceLT, Nat.reduceLeDiff, Nat.reduceEqDiff, Nat.reduceAdd, Nat.reduceMul, Nat.reduceSub, Int.reduceToNat, Int.reduceLE, Int.reduceLT, Int.reduceEq, Int.reduceAdd, ↓reduceIte, decide_true, decide_false, and_self]
    refine ⟨okTr_of (by kernel_rfl), ?_⟩
    exact ⟨_, _, rfl, rfl, .of_eq (by unfold lres; rw [e, if_neg (by omega), hv1, hv2]; rfl), rfl⟩
end Go.Proofs.YteapibifebnboaaDoor

/- record: what the functions compute, as plain lists; fault, frame, one. -/
set_option linter.unusedVariables false
set_option linter.unusedSimpArgs false
namespace Go.Proofs.YteapibifebnboaaDoor
open Go Go.Eng
structure RV where
  lead : List Int
  fields : List FV
def rowCells (L : List FV) : List AV := L.flatMap fCells
def rCells (r : RV) : List AV := [.str r.lead, .sl r.fields.length (rowCells r.fields)]
def zeroR : RV := ⟨[], []⟩
def flt (e a : Int) : AV := .agg [.int .i64 e, .int .i64 a]
def baseOf (b : List Int) : Int := valOf ((b.drop 12).take 5)
/-- Where the data begin, or the fault. -/
def frameP (b : List Int) : Sum (Int × Int) Int :=
  if ledAt b < 24 then .inl (10, ledAt b)
  else if valOf (b.take 5) ≠ b.length ∨ b.getD (b.length - 1) 0 ≠ 29 then .inl (13, 0)
  else if baseOf b ≤ 24 ∨ (b.length : Int) ≤ baseOf b ∨ (baseOf b - 25) % 12 ≠ 0 ∨ b.getD (baseOf b - 1).toNat 0 ≠ 30 then .inl (13, 12)
  else .inr (baseOf b)
def frameR : Sum (Int × Int) Int → AV
  | .inl (e, a) => .tup [.int .i64 0, flt e a]
  | .inr b => .tup [.int .i64 b, flt 0 0]
/-- A field, by its entry. -/
def oneP (b : List Int) (base : Nat) (e : Ent) : Sum Int FV :=
  let fr := base + e.2.2.toNat
  let to := fr + e.2.1.toNat - 1
  if b.getD to 0 ≠ 30 then .inl to
  else match fparse e.1 ((b.take to).drop fr) with
    | .inl a => .inl (fr + a)
    | .inr f => .inr f
set_option maxRecDepth 100000 in
theorem rfault_c (e a : Int) : ACall Tryd.prog 39 [.int .i64 e, .int .i64 a] (flt e a) none := by
  refine acall_intro none Tryd.func39 rfl (by kernel_rfl) (by simp [Tryd.f39]) ?_
  refine ex_run 30 ?_
  simp (maxSteps := 200000) only [Tryd.f39, push_cast, List.getD_cons_zero, List.getD_cons_succ, List.take_succ_cons, List.take_zero, List.drop_succ_cons, Nat.reduceLT, Nat.reduceLeDiff, Nat.reduceEqDiff, Nat.reduceAdd, Nat.reduceMul, Nat.reduceSub, Int.reduceToNat, Int.reduceLE, Int.reduceLT, Int.reduceEq, Int.reduceAdd, ↓reduceIte, decide_true, decide_false, and_self]
  exact ⟨_, _, rfl, rfl, .refl _, rfl⟩
set_option maxRecDepth 100000 in
set_option maxHeartbeats 4000000 in
theorem frame_c (b : List Int) (hl : b.length ≤ 9223372036854775807) : ACall Tryd.prog 37 [.sl b.length (u8s b)] (frameR (frameP b)) none := by
  refine acall_intro none Tryd.func37 rfl (by kernel_rfl) (by simp [Tryd.f37]) ?_
  refine ex_run 100 ?_
  simp (maxSteps := 200000) only [Tryd.f37, push_cast, List.getD_cons_zero, List.getD_cons_succ, List.take_succ_cons, List.take_zero, List.drop_succ_cons, Nat.reduceLT, Nat.reduceLeDiff, Nat.reduceEqDiff, Nat.reduceAdd, Nat.reduceMul, Nat.reduceSub, Int.reduceToNat, Int.reduceLE, Int.reduceLT, Int.reduceEq, Int.reduceAdd, ↓reduceIte, decide_true, decide_false, and_self]
  refine call_intro (LParse_c b hl) (fun h => by cases h) ?_
  unfold lres
  by_cases h1 : ledAt b < 24
  · have e : frameP b = .inl (10, ledAt b) := by unfold frameP; rw [if_pos h1]
    rw [if_pos h1, e]
    simp (maxSteps := 200000) only [lfault, push_cast, List.getD_cons_zero, List.getD_cons_succ, List.take_succ_cons, List.take_zero, List.drop_succ_cons, Nat.reduceLT, Nat.reduceLeDiff, Nat.reduceEqDiff, Nat.reduceAdd, Nat.reduceMul, Nat.reduceSub, Int.reduceToNat, Int.reduceLE, Int.reduceLT, Int.reduceEq, Int.reduceAdd, ↓reduceIte, decide_true, decide_false, and_self]
    refine ⟨by kernel_rfl, by kernel_rfl, ?_⟩
    exact ⟨_, _, rfl, rfl, .refl _, rfl⟩
  · rw [if_neg h1]
    have hle := ledAt_le b
    have hA : ledAt b = 24 := by omega
    obtain ⟨d1, d2⟩ := led_digits hA
    have v1 := valOf_small (l := b.take 5) (i := (b.take 5).length) (Nat.le_refl _) (by rw [List.length_take]; omega) (by rw [List.take_length]; exact d1)
    have v2 := valOf_small (l := (b.drop 12).take 5) (i := ((b.drop 12).take 5).length) (Nat.le_refl _) (by rw [List.length_take]; omega) (by rw [List.take_length]; exact d2)
    rw [List.take_length] at v1 v2
    have hf : frameP b = if valOf (b.take 5) ≠ b.length ∨ b.getD (b.length - 1) 0 ≠ 29 then .inl (13, 0)
      else if valOf ((b.drop 12).take 5) ≤ 24 ∨ (b.length : Int) ≤ valOf ((b.drop 12).take 5) ∨ (valOf ((b.drop 12).take 5) - 25) % 12 ≠ 0 ∨ b.getD (valOf ((b.drop 12).take 5) - 1).toNat 0 ≠ 30 then .inl (13, 12)
      else .inr (valOf ((b.drop 12).take 5)) := by unfold frameP; rw [if_neg h1]; rfl
    rw [hf]
    generalize valOf ((b.drop 12).take 5) = base at *
    generalize valOf (b.take 5) = len at *
    by_cases h2 : len = b.length
    · have hpos : 0 < b.length := by omega
      have w1 : IntKind.i64.wrap ((b.length : Int) - 1) = (b.length : Int) - 1 := wrap_i64 (by omega)
      have t1 : ((b.length : Int) - 1).toNat = b.length - 1 := by omega
      have i1 : (b.length : Int) - 1 < (b.length : Int) := by omega
      have i2 : (0 : Int) ≤ (b.length : Int) - 1 := by omega
      have i3 : b.length - 1 < b.length := by omega
      have hg := u8s_getD b (b.length - 1) i3
      generalize b.getD (b.length - 1) 0 = c at *
      by_cases h3 : c = 29
      · rw [if_neg (by rintro (h | h); exact h h2; exact h h3)]
        by_cases h4 : base ≤ 24
        · rw [if_pos (.inl h4)]
          simp (maxSteps := 200000) only [h2, w1, t1, i1, i2, i3, hg, h3, hpos, h4, okF, push_cast, List.getD_cons_zero, List.getD_cons_succ, List.take_succ_cons, List.take_zero, List.drop_succ_cons, Nat.reduceLT, Nat.reduceLeDiff, Nat.reduceEqDiff, Nat.reduceAdd, Nat.reduceMul, Nat.reduceSub, Int.reduceToNat, Int.reduceLE, Int.reduceLT, Int.reduceEq, Int.reduceAdd, ↓reduceIte, decide_true, decide_false, and_self]
          refine call_intro (rfault_c 13 12) (fun h => by cases h) ?_
          simp (maxSteps := 200000) only [flt, push_cast, List.getD_cons_zero, List.getD_cons_succ, List.take_succ_cons, List.take_zero, List.drop_succ_cons, Nat.reduceLT, Nat.reduceLeDiff, Nat.reduceEqDiff, Nat.reduceAdd, Nat.reduceMul, Nat.reduceSub, Int.reduceToNat, Int.reduceLE, Int.reduceLT, Int.reduceEq, Int.reduceAdd, ↓reduceIte, decide_true, decide_false, and_self]
          exact ⟨_, _, rfl, rfl, .refl _, rfl⟩
        · by_cases h5 : (b.length : Int) ≤ base
          · rw [if_pos (.inr (.inl h5))]
            simp (maxSteps := 200000) only [h2, w1, t1, i1, i2, i3, hg, h3, hpos, h4, h5, okF, push_cast, List.getD_cons_zero, List.getD_cons_succ, List.take_succ_cons, List.take_zero, List.drop_succ_cons, Nat.reduceLT, Nat.reduceLeDiff, Nat.reduceEqDiff, Nat.reduceAdd, Nat.reduceMul, Nat.reduceSub, Int.reduceToNat, Int.reduceLE, Int.reduceLT, Int.reduceEq, Int.reduceAdd, ↓reduceIte, decide_true, decide_false, and_self]
            refine call_intro (rfault_c 13 12) (fun h => by cases h) ?_
            simp (maxSteps := 200000) only [flt, push_cast, List.getD_cons_zero, List.getD_cons_succ, List.take_succ_cons, List.take_zero, List.drop_succ_cons, Nat.reduceLT, Nat.reduceLeDiff, Nat.reduceEqDiff, Nat.reduceAdd, Nat.reduceMul, Nat.reduceSub, Int.reduceToNat, Int.reduceLE, Int.reduceLT, Int.reduceEq, Int.reduceAdd, ↓reduceIte, decide_true, decide_false, and_self]
            exact ⟨_, _, rfl, rfl, .refl _, rfl⟩
          · have w2 : IntKind.i64.wrap (base - 1) = base - 1 := wrap_i64 (by omega)
            have w3 : IntKind.i64.wrap (base - 1 - 24) = base - 25 := by rw [wrap_i64 (by omega)]; omega
            have e3 : (base - 25).tmod 12 = (base - 25) % 12 := Int.tmod_eq_emod_of_nonneg (by omega)
            by_cases h6 : (base - 25) % 12 = 0
            · have j1 : base - 1 < (b.length : Int) := by omega
              have j2 : (0 : Int) ≤ base - 1 := by omega
              have j3 : (base - 1).toNat < b.length := by omega
              have hg2 := u8s_getD b (base - 1).toNat j3
              generalize b.getD (base - 1).toNat 0 = c2 at *
              by_cases h7 : c2 = 30
              · rw [if_neg (by rintro (h | h | h | h); exact h4 h; exact h5 h; exact h h6; exact h h7)]
                simp (maxSteps := 200000) only [h2, w1, t1, i1, i2, i3, hg, h3, hpos, h4, h5, w2, w3, e3, h6, j1, j2, j3, hg2, h7, okF, push_cast, List.getD_cons_zero, List.getD_cons_succ, List.take_succ_cons, List.take_zero, List.drop_succ_cons, Nat.reduceLT, Nat.reduceLeDiff, Nat.reduceEqDiff, Nat.reduceAdd, Nat.reduceMul, Nat.reduceSub, Int.reduceToNat, Int.reduceLE, Int.reduceLT, Int.reduceEq, Int.reduceAdd, ↓reduceIte, decide_true, decide_false, and_self]
                exact ⟨by decide, _, _, rfl, rfl, .refl _, rfl⟩
              · rw [if_pos (.inr (.inr (.inr h7)))]
                simp (maxSteps := 200000) only [h2, w1, t1, i1, i2, i3, hg, h3, hpos, h4, h5, w2, w3, e3, h6, j1, j2, j3, hg2, h7, okF, push_cast, List.getD_cons_zero, List.getD_cons_succ, List.take_succ_cons, List.take_zero, List.drop_succ_cons, Nat.reduceLT, Nat.reduceLeDiff, Nat.reduceEqDiff, Nat.reduceAdd, Nat.reduceMul, Nat.reduceSub, Int.reduceToNat, Int.reduceLE, Int.reduceLT, Int.reduceEq, Int.reduceAdd, ↓reduceIte, decide_true, decide_false, and_self]
                refine ⟨by decide, ?_⟩
                refine call_intro (rfault_c 13 12) (fun h => by cases h) ?_
                simp (maxSteps := 200000) only [flt, push_cast, List.getD_cons_zero, List.getD_cons_succ, List.take_succ_cons, List.take_zero, List.drop_succ_cons, Nat.reduceLT, Nat.reduceLeDiff, Nat.reduceEqDiff, Nat.reduceAdd, Nat.reduceMul, Nat.reduceSub, Int.reduceToNat, Int.reduceLE, Int.reduceLT, Int.reduceEq, Int.reduceAdd, ↓reduceIte, decide_true, decide_false, and_self]
                exact ⟨_, _, rfl, rfl, .refl _, rfl⟩
            · rw [if_pos (.inr (.inr (.inl h6)))]
              simp (maxSteps := 200000) only [h2, w1, t1, i1, i2, i3, hg, h3, hpos, h4, h5, w2, w3, e3, h6, okF, push_cast, List.getD_cons_zero, List.getD_cons_succ, List.take_succ_cons, List.take_zero, List.drop_succ_cons, Nat.reduceLT, Nat.reduceLeDiff, Nat.reduceEqDiff, Nat.reduceAdd, Nat.reduceMul, Nat.reduceSub, Int.reduceToNat, Int.reduceLE, Int.reduceLT, Int.reduceEq, Int.reduceAdd, ↓reduceIte, decide_true, decide_false, and_self]
              refine ⟨by decide, ?_⟩
              refine call_intro (rfault_c 13 12) (fun h => by cases h) ?_
              simp (maxSteps := 200000) only [flt, push_cast, List.getD_cons_zero, List.getD_cons_succ, List.take_succ_cons, List.take_zero, List.drop_succ_cons, Nat.reduceLT, Nat.reduceLeDiff, Nat.reduceEqDiff, Nat.reduceAdd, Nat.reduceMul, Nat.reduceSub, Int.reduceToNat, Int.reduceLE, Int.reduceLT, Int.reduceEq, Int.reduceAdd, ↓reduceIte, decide_true, decide_false, and_self]
              exact ⟨_, _, rfl, rfl, .refl _, rfl⟩
      · rw [if_pos (.inr h3)]
        simp (maxSteps := 200000) only [h2, w1, t1, i1, i2, i3, hg, h3, hpos, okF, push_cast, List.getD_cons_zero, List.getD_cons_succ, List.take_succ_cons, List.take_zero, List.drop_succ_cons, Nat.reduceLT, Nat.reduceLeDiff, Nat.reduceEqDiff, Nat.reduceAdd, Nat.reduceMul, Nat.reduceSub, Int.reduceToNat, Int.reduceLE, Int.reduceLT, Int.reduceEq, Int.reduceAdd, ↓reduceIte, decide_true, decide_false, and_self]
        refine call_intro (rfault_c 13 0) (fun h => by cases h) ?_
        simp (maxSteps := 200000) only [flt, push_cast, List.getD_cons_zero, List.getD_cons_succ, List.take_succ_cons, List.take_zero, List.drop_succ_cons, Nat.reduceLT, Nat.reduceLeDiff, Nat.reduceEqDiff, Nat.reduceAdd, Nat.reduceMul, Nat.reduceSub, Int.reduceToNat, Int.reduceLE, Int.reduceLT, Int.reduceEq, Int.reduceAdd, ↓reduceIte, decide_true, decide_false, and_self]
        exact ⟨_, _, rfl, rfl, .refl _, rfl⟩
    · rw [if_pos (.inl h2)]
      simp (maxSteps := 200000) only [h2, okF, push_cast, List.getD_cons_zero, List.getD_cons_succ, List.take_succ_cons, List.take_zero, List.drop_succ_cons, Nat.reduceLT, Nat.reduceLeDiff, Nat.reduceEqDiff, Nat.reduceAdd, Nat.reduceMul, Nat.reduceSub, Int.reduceToNat, Int.reduceLE, Int.reduceLT, Int.reduceEq, Int.reduceAdd, ↓reduceIte, decide_true, decide_false, and_self]
      refine call_intro (rfault_c 13 0) (fun h => by cases h) ?_
      simp (maxSteps := 200000) only [flt, push_cast, List.getD_cons_zero, List.getD_cons_succ, List.take_succ_cons, List.take_zero, List.drop_succ_cons, Nat.reduceLT, Nat.reduceLeDiff, Nat.reduceEqDiff, Nat.reduceAdd, Nat.reduceMul, Nat.reduceSub, Int.reduceToNat, Int.reduceLE, Int.reduceLT, Int.reduceEq, Int.reduceAdd, ↓reduceIte, decide_true, decide_false, and_self]
      exact ⟨_, _, rfl, rfl, .refl _, rfl⟩
theorem subsP_le : ∀ (k : Nat) (rest : List Int) (at_ : Nat), (subsP k rest at_).1 ≤ at_ + rest.length
  | 0, rest, at_ => by simp only [subsP]; omega
  | k + 1, rest, at_ => by
    rw [subsP]
    simp only
    by_cases h1 : rest.length < 1 ∨ rest.getD 0 0 ≠ 31
    · have e : oneOf rest = (0, [], -1, 0) := by unfold oneOf; rw [if_pos h1]
      rw [e]
      simp
      omega
    · by_cases h2 : rest.length < 2 ∨ codeB (rest.getD 1 0) = false
      · have e : oneOf rest = (0, [], -1, 1) := by unfold oneOf; rw [if_neg h1, if_pos h2]
        rw [e]
        rw [not_or] at h1
        simp
        omega
      · have e : oneOf rest = (rest.getD 1 0, (rest.drop 2).takeWhile freeB, ((2 + ((rest.drop 2).takeWhile freeB).length : Nat) : Int), 0) := by unfold oneOf; rw [if_neg h1, if_neg h2]
        rw [e]
        simp only
        rw [if_neg (by omega)]
        split
        · simp only; omega
        · rename_i h3
          simp only
          have := subsP_le k (rest.drop ((2 + ((rest.drop 2).takeWhile freeB).length : Nat) : Int).toNat) (at_ + ((2 + ((rest.drop 2).takeWhile freeB).length : Nat) : Int).toNat)
          rw [List.length_drop] at this
          omega
theorem fparse_le {tag b : List Int} {a : Int} (h : fparse tag b = .inl a) : a ≤ b.length := by
  unfold fparse at h
  split at h
  · cases h; omega
  · split at h
    · split at h
      · cases h
      · cases h
        have := badFrom_range b 0
        omega
    · split at h
      · cases h; omega
      · split at h
        · rename_i h1 _; cases h; rw [not_or] at h1; omega
        · split at h
          · cases h
          · rename_i h1 h2 _
            cases h
            rw [not_or] at h2
            have := subsP_le (b.length + 1) (b.drop 2) 2
            rw [List.length_drop] at this
            omega
set_option maxRecDepth 100000 in
set_option maxHeartbeats 4000000 in
theorem rone_c (b : List Int) (base : Nat) (e : Ent) (hl : b.length ≤ 1099511627776) (ht : e.1.length ≤ 9223372036854775807) (hs : 0 ≤ e.2.2) (hn : 1 ≤ e.2.1) (hin : base + e.2.2 + e.2.1 ≤ b.length) :
    ACall Tryd.prog 40 [.sl b.length (u8s b), .int .i64 base, .agg (eCells e)] (fres (oneP b base e)) none := by
  obtain ⟨tag, ln, st⟩ := e
  simp only at ht hs hn hin
  obtain ⟨s, rfl⟩ : ∃ s : Nat, st = s := ⟨st.toNat, by omega⟩
  obtain ⟨n, rfl⟩ : ∃ n : Nat, ln = n := ⟨ln.toNat, by omega⟩
  obtain ⟨fr, hfr⟩ : ∃ fr : Nat, fr = base + s := ⟨_, rfl⟩
  obtain ⟨to, hto⟩ : ∃ to : Nat, to = base + s + n - 1 := ⟨_, rfl⟩
  have w1 : IntKind.i64.wrap ((base : Int) + (s : Int)) = (fr : Int) := by rw [wrap_i64 (by omega)]; omega
  have w2 : IntKind.i64.wrap ((fr : Int) + (n : Int)) = (fr : Int) + (n : Int) := wrap_i64 (by omega)
  have w3 : IntKind.i64.wrap ((fr : Int) + (n : Int) - 1) = (to : Int) := by rw [wrap_i64 (by omega)]; omega
  refine acall_intro none Tryd.func40 rfl (by kernel_rfl) (by simp [Tryd.f40]) ?_
  have i1 : to < b.length := by omega
  have i2 : fr ≤ to := by omega
  have i3 : to ≤ b.length := by omega
  have hpos : 0 < b.length := by omega
  have hg := u8s_getD b to i1
  have hone : oneP b base (tag, (n : Int), (s : Int)) = if b.getD to 0 ≠ 30 then .inl (to : Int) else match fparse tag ((b.take to).drop fr) with | .inl a => .inl ((fr : Int) + a) | .inr f => .inr f := by
    unfold oneP; simp only [Int.toNat_natCast]; rw [← hfr, hto, hfr]
  have hsl : ((b.take to).drop fr).length = to - fr := by rw [List.length_drop, List.length_take]; omega
  rw [hone]
  generalize b.getD to 0 = c at *
  refine ex_run 100 ?_
  simp (maxSteps := 200000) only [Tryd.f40, eCells, w1, w2, w3, i1, hpos, hg, push_cast, List.getD_cons_zero, List.getD_cons_succ, List.take_succ_cons, List.take_zero, List.drop_succ_cons, Nat.reduceLT, Nat.reduceLeDiff, Nat.reduceEqDiff, Nat.reduceAdd, Nat.reduceMul, Nat.reduceSub, Int.reduceToNat, Int.reduceLE, Int.reduceLT, Int.reduceEq, Int.reduceAdd, ↓reduceIte, decide_true, decide_false, and_self]
  refine ⟨by kernel_rfl, okTr_of (by kernel_rfl), ?_⟩
  by_cases hc : c = 30
  · rw [if_neg (by rw [hc]; simp)]
    simp (maxSteps := 200000) only [hc, i2, i3, push_cast, List.getD_cons_zero, List.getD_cons_succ, List.take_succ_cons, List.take_zero, List.drop_succ_cons, Nat.reduceLT, Nat.reduceLeDiff, Nat.reduceEqDiff, Nat.reduceAdd, Nat.reduceMul, Nat.reduceSub, Int.reduceToNat, Int.reduceLE, Int.reduceLT, Int.reduceEq, Int.reduceAdd, ↓reduceIte, decide_true, decide_false, and_self]
    refine ⟨by kernel_rfl, ?_⟩
    refine call_introF (FParse_m tag ((b.take to).drop fr) _ hsl ht (by omega)) (fun h => by cases h) ?_
    cases hp : fparse tag ((b.take to).drop fr) with
    | inl a =>
      have ha := fparse_nn hp
      have hb2 := fparse_le hp
      rw [hsl] at hb2
      have w4 : IntKind.i64.wrap ((fr : Int) + a) = (fr : Int) + a := wrap_i64 (by omega)
      unfold fres
      simp (maxSteps := 200000) only [fCells, zeroF, subCells_nil, u8s_nil, w4, push_cast, List.getD_cons_zero, List.getD_cons_succ, List.take_succ_cons, List.take_zero, List.drop_succ_cons, Nat.reduceLT, Nat.reduceLeDiff, Nat.reduceEqDiff, Nat.reduceAdd, Nat.reduceMul, Nat.reduceSub, Int.reduceToNat, Int.reduceLE, Int.reduceLT, Int.reduceEq, Int.reduceAdd, ↓reduceIte, decide_true, decide_false, and_self]
      refine ⟨okTr_of (by kernel_rfl), ?_⟩
      refine call_intro (rfault_c 12 ((fr : Int) + a)) (fun h => by cases h) ?_
      simp (maxSteps := 200000) only [flt, push_cast, List.getD_cons_zero, List.getD_cons_succ, List.take_succ_cons, List.take_zero, List.drop_succ_cons, Nat.reduceLT, Nat.reduceLeDiff, Nat.reduceEqDiff, Nat.reduceAdd, Nat.reduceMul, Nat.reduceSub, Int.reduceToNat, Int.reduceLE, Int.reduceLT, Int.reduceEq, Int.reduceAdd, ↓reduceIte, decide_true, decide_false, and_self]
      exact ⟨_, _, rfl, rfl, sub_tup ⟨sub_agg ⟨.refl _, .nil, .refl _, .refl _, .nil, trivial⟩, .refl _, trivial⟩, rfl⟩
    | inr f =>
      unfold fres
      have hcl : closedL (subCells f.subs) = true := subCells_closed _
      simp (maxSteps := 200000) only [fCells, hcl, push_cast, List.getD_cons_zero, List.getD_cons_succ, List.take_succ_cons, List.take_zero, List.drop_succ_cons, Nat.reduceLT, Nat.reduceLeDiff, Nat.reduceEqDiff, Nat.reduceAdd, Nat.reduceMul, Nat.reduceSub, Int.reduceToNat, Int.reduceLE, Int.reduceLT, Int.reduceEq, Int.reduceAdd, ↓reduceIte, decide_true, decide_false, and_self]
      refine ⟨okTr_of (by kernel_rfl), ?_⟩
      exact ⟨[.agg (fCells f), .agg [.int .i64 0, .int .i64 0]], [.agg (fCells f), .agg [.int .i64 0, .int .i64 0]], by kernel_rfl, by simp [fCells, outA, outV, outL, outC, AV.closed, u8s_closed, hcl], .refl _, rfl⟩
  · rw [if_pos hc]
    simp (maxSteps := 200000) only [hc, i2, i3, push_cast, List.getD_cons_zero, List.getD_cons_succ, List.take_succ_cons, List.take_zero, List.drop_succ_cons, Nat.reduceLT, Nat.reduceLeDiff, Nat.reduceEqDiff, Nat.reduceAdd, Nat.reduceMul, Nat.reduceSub, Int.reduceToNat, Int.reduceLE, Int.reduceLT, Int.reduceEq, Int.reduceAdd, ↓reduceIte, decide_true, decide_false, and_self]
    refine call_intro (rfault_c 12 to) (fun h => by cases h) ?_
    simp (maxSteps := 200000) only [flt, push_cast, List.getD_cons_zero, List.getD_cons_succ, List.take_succ_cons, List.take_zero, List.drop_succ_cons, Nat.reduceLT, Nat.reduceLeDiff, Nat.reduceEqDiff, Nat.reduceAdd, Nat.reduceMul, Nat.reduceSub, Int.reduceToNat, Int.reduceLE, Int.reduceLT, Int.reduceEq, Int.reduceAdd, ↓reduceIte, decide_true, decide_false, and_self]
    exact ⟨_, _, rfl, rfl, sub_tup ⟨sub_agg ⟨.refl _, .nil, .refl _, .refl _, .nil, trivial⟩, .refl _, trivial⟩, rfl⟩
end Go.Proofs.YteapibifebnboaaDoor

/- record: a record's bytes read, as plain lists. -/
set_option linter.unusedVariables false
set_option linter.unusedSimpArgs false
namespace Go.Proofs.YteapibifebnboaaDoor
open Go Go.Eng
def entAt (l : List Int) (j : Nat) : Ent := ((blk l j).take 3, lenOf (blk l j), offOf (blk l j))
def entsTo (l : List Int) : Nat → List Ent
  | 0 => []
  | j + 1 => entsTo l j ++ [entAt l j]
theorem entsTo_length (l : List Int) : ∀ n, (entsTo l n).length = n
  | 0 => rfl
  | n + 1 => by rw [entsTo, List.length_append, entsTo_length l n]; rfl
theorem lCells_append (L M : List Ent) : lCells (L ++ M) = lCells L ++ lCells M := List.flatMap_append ..
theorem entsTo_cells (l : List Int) : ∀ n, lCells (entsTo l n) = cellsTo l n
  | 0 => rfl
  | n + 1 => by rw [entsTo, lCells_append, entsTo_cells l n, cellsTo]; rfl
theorem entsTo_get (l : List Int) : ∀ (n i : Nat) (h : i < (entsTo l n).length), (entsTo l n)[i] = entAt l i
  | 0, i, h => by simp [entsTo] at h
  | n + 1, i, h => by
    rw [entsTo_length] at h
    by_cases e : i < n
    · have := entsTo_get l n i (by rw [entsTo_length]; exact e)
      simp only [entsTo]
      rw [List.getElem_append_left (by rw [entsTo_length]; exact e)]; exact this
    · have : i = n := by omega
      subst this
      simp only [entsTo]
      rw [List.getElem_append_right (by rw [entsTo_length]; exact Nat.le_refl _)]
      simp [entsTo_length]
theorem lens_append (L M : List Ent) : lens (L ++ M) = lens L + lens M := by simp [lens]
theorem entsTo_lens (l : List Int) : ∀ n, lens (entsTo l n) = base l n
  | 0 => rfl
  | n + 1 => by rw [entsTo, lens_append, entsTo_lens l n, base]; simp [lens, entAt]
theorem entsTo_take (l : List Int) : ∀ (n i : Nat), i ≤ n → (entsTo l n).take i = entsTo l i
  | 0, i, h => by simp [entsTo, show i = 0 by omega]
  | n + 1, i, h => by
    by_cases e : i ≤ n
    · rw [entsTo, List.take_append_of_le_length (by rw [entsTo_length]; exact e)]; exact entsTo_take l n i e
    · obtain rfl : i = n + 1 := by omega
      exact List.take_of_length_le (by rw [entsTo_length]; omega)
/-- The first block that is no entry. -/
def dirBad (l : List Int) : Option Nat := (List.range (l.length + 1)).find? fun j => decide (12 * j < l.length) && !good l j
theorem dirBad_some {l : List Int} {j : Nat} (h : dirBad l = some j) : 12 * j < l.length ∧ good l j = false ∧ ∀ i, i < j → good l i = true := by
  unfold dirBad at h
  rw [List.find?_range_eq_some] at h
  obtain ⟨h1, h2, h3⟩ := h
  simp only [Bool.and_eq_true, decide_eq_true_eq, Bool.not_eq_true'] at h1
  refine ⟨h1.1, h1.2, fun i hi => ?_⟩
  have := h3 i hi
  simp only [Bool.not_and, Bool.not_not, Bool.or_eq_true, Bool.not_eq_true', decide_eq_false_iff_not] at this
  rcases this with h | h
  · omega
  · exact h
theorem dirBad_none {l : List Int} (h : dirBad l = none) : l.length = 12 * (l.length / 12) ∧ ∀ i, i < l.length / 12 → good l i = true := by
  rcases scan l with ⟨j, h1, h2, h3⟩ | ⟨n, h1, h2⟩
  · exfalso
    unfold dirBad at h
    rw [List.find?_eq_none] at h
    have := h j (by rw [List.mem_range]; omega)
    rw [decide_eq_true h1, h2] at this
    exact this rfl
  · have : n = l.length / 12 := by omega
    subst this; exact ⟨h1, h2⟩
theorem good_out {l : List Int} {j : Nat} (h : good l j = true) : 12 * j + 12 ≤ l.length ∧ goodTag (entAt l j).1 = true ∧ 1 ≤ (entAt l j).2.1 ∧ (entAt l j).2.2 = base l j := by
  simp only [good, Bool.and_eq_true, decide_eq_true_eq] at h
  obtain ⟨⟨h1, h2⟩, h3⟩ := h
  unfold entryOf at h2
  simp only [Bool.and_eq_true, decide_eq_true_eq] at h2
  exact ⟨h1, h2.1.2, by have := h2.2; show 1 ≤ lenOf (blk l j); unfold lenOf; omega, h3⟩
theorem base_mono (l : List Int) {i j : Nat} (h : i ≤ j) : base l i ≤ base l j := by
  induction h with
  | refl => exact Int.le_refl _
  | @step m _ ih => have := lenOf_small (blk l m); rw [base]; omega
def preF (fs : List FV) : Sum Int (List FV) → Sum Int (List FV)
  | .inl a => .inl a
  | .inr g => .inr (fs ++ g)
theorem preF_nil (r : Sum Int (List FV)) : preF [] r = r := by cases r <;> rfl
theorem preF_preF (a b : List FV) (r : Sum Int (List FV)) : preF a (preF b r) = preF (a ++ b) r := by cases r <;> simp [preF]
def fieldsP (b : List Int) (bs : Nat) : List Ent → Sum Int (List FV)
  | [] => .inr []
  | e :: L => match oneP b bs e with
    | .inl a => .inl a
    | .inr f => preF [f] (fieldsP b bs L)
theorem fieldsP_drop (b : List Int) (bs : Nat) (L : List Ent) (i : Nat) (h : i < L.length) : fieldsP b bs (L.drop i) = match oneP b bs L[i] with | .inl a => .inl a | .inr f => preF [f] (fieldsP b bs (L.drop (i + 1))) := by
  rw [List.drop_eq_getElem_cons h]; rfl
/-- A directory's bytes. -/
def dirOf (b : List Int) (bs : Int) : List Int := (b.take (bs - 1).toNat).drop 24
/-- A record's bytes read. -/
def rparse (b : List Int) : Sum (Int × Int) RV :=
  match frameP b with
  | .inl x => .inl x
  | .inr bs =>
    match dirBad (dirOf b bs) with
    | some j => .inl (11, 24 + 12 * (j : Int))
    | none =>
      if bs + base (dirOf b bs) ((dirOf b bs).length / 12) ≠ (b.length : Int) - 1 then .inl (13, 12)
      else match fieldsP b bs.toNat (entsTo (dirOf b bs) ((dirOf b bs).length / 12)) with
        | .inl a => .inl (12, a)
        | .inr fs => .inr ⟨b.take 24, fs⟩
def rres : Sum (Int × Int) RV → AV
  | .inl (e, a) => .tup [.agg (rCells zeroR), flt e a]
  | .inr r => .tup [.agg (rCells r), flt 0 0]
theorem frameP_inr {b : List Int} {bs : Int} (h : frameP b = .inr bs) : ledAt b = 24 ∧ valOf (b.take 5) = b.length ∧ b.getD (b.length - 1) 0 = 29 ∧ bs = baseOf b ∧ 25 ≤ bs ∧ bs < b.length ∧ (bs - 25) % 12 = 0 ∧ b.getD (bs - 1).toNat 0 = 30 ∧ b.length ≤ 99999 := by
  unfold frameP at h
  have hle := ledAt_le b
  split at h
  · cases h
  · rename_i h1
    have hA : ledAt b = 24 := by omega
    obtain ⟨d1, d2⟩ := led_digits hA
    have v1 := valOf_small (l := b.take 5) (i := (b.take 5).length) (Nat.le_refl _) (by rw [List.length_take]; omega) (by rw [List.take_length]; exact d1)
    rw [List.take_length] at v1
    split at h
    · cases h
    · rename_i h2
      rw [not_or] at h2
      split at h
      · cases h
      · rename_i h3
        simp only [not_or, Decidable.not_not] at h3
        cases h
        have e1 : valOf (b.take 5) = b.length := by have := h2.1; omega
        refine ⟨hA, e1, ?_, rfl, by omega, by omega, h3.2.2.1, h3.2.2.2, by omega⟩
        have := h2.2
        simpa using this
theorem dirOf_length {b : List Int} {bs : Int} (h : frameP b = .inr bs) : ((dirOf b bs).length : Int) = bs - 25 := by
  obtain ⟨_, _, _, _, h5, h6, _, _, _⟩ := frameP_inr h
  unfold dirOf
  rw [List.length_drop, List.length_take]
  omega
end Go.Proofs.YteapibifebnboaaDoor

/- record.Parse -/
set_option linter.unusedVariables false
set_option linter.unusedSimpArgs false
namespace Go.Proofs.YteapibifebnboaaDoor
open Go Go.Eng
theorem DParse_bad (l : List Int) (n : Nat) (hn : l.length = n) (hl : n ≤ 1099511627776) (hb : inB l) {j : Nat} (h : dirBad l = some j) : ACall Tryd.prog 38 [.sl n (u8s l)] (.tup [.nilS, .agg [.int .i64 11, .int .i64 (12 * j : Nat)]]) none := by
  subst hn
  obtain ⟨h1, h2, h3⟩ := dirBad_some h
  refine Parse_run l hl hb none _ _ (fun i i1 i2 i3 => ?_) (fun m m1 m2 => ?_)
  · have : i = j := by
      rcases Nat.lt_trichotomy i j with k | k | k
      · rw [h3 i k] at i2; cases i2
      · exact k
      · rw [i3 j k] at h2; cases h2
    subst this; exact ⟨rfl, rfl, rfl⟩
  · rw [m2 j (by omega)] at h2; cases h2
theorem DParse_ok (l : List Int) (n : Nat) (hn : l.length = n) (hl : n ≤ 1099511627776) (hb : inB l) (h : dirBad l = none) (m : Nat) (hm : m = l.length / 12) : ACall Tryd.prog 38 [.sl n (u8s l)] (.tup [.own 0 0 0 m, .agg [.int .i64 0, .int .i64 0]]) (some ⟨0, 3, lCells (entsTo l m)⟩) := by
  subst hn
  subst hm
  obtain ⟨h1, h2⟩ := dirBad_none h
  refine Parse_run l hl hb (some 100) _ _ (fun i i1 i2 i3 => ?_) (fun k m1 m2 => ?_)
  · rw [h2 i (by omega)] at i2; cases i2
  · have : k = l.length / 12 := by omega
    subst this; rw [entsTo_cells]; exact ⟨rfl, rfl, rfl⟩
theorem RDir_bad (l : List Int) (n : Nat) (hn : l.length = n) (hl : n ≤ 1099511627776) (hb : inB l) {j : Nat} (h : dirBad l = some j) : ACall Tryd.prog 34 [.sl n (u8s l)] (.tup [.nilS, .agg [.int .i64 11, .int .i64 (12 * j : Nat)]]) none := by
  subst hn
  obtain ⟨h1, h2, h3⟩ := dirBad_some h
  refine RDir_run l hl hb none _ _ (fun i i1 i2 i3 => ?_) (fun m m1 m2 => ?_)
  · have : i = j := by
      rcases Nat.lt_trichotomy i j with k | k | k
      · rw [h3 i k] at i2; cases i2
      · exact k
      · rw [i3 j k] at h2; cases h2
    subst this; exact ⟨rfl, rfl, rfl⟩
  · rw [m2 j (by omega)] at h2; cases h2
theorem RDir_ok (l : List Int) (n : Nat) (hn : l.length = n) (hl : n ≤ 1099511627776) (hb : inB l) (h : dirBad l = none) (m : Nat) (hm : m = l.length / 12) : ACall Tryd.prog 34 [.sl n (u8s l)] (.tup [.own 0 0 0 m, .agg [.int .i64 0, .int .i64 0]]) (some ⟨0, 3, lCells (entsTo l m)⟩) := by
  subst hn
  subst hm
  obtain ⟨h1, h2⟩ := dirBad_none h
  refine RDir_run l hl hb (some 100) _ _ (fun i i1 i2 i3 => ?_) (fun k m1 m2 => ?_)
  · rw [h2 i (by omega)] at i2; cases i2
  · have : k = l.length / 12 := by omega
    subst this; rw [entsTo_cells]; exact ⟨rfl, rfl, rfl⟩
theorem rowCells_length (L : List FV) : (rowCells L).length = L.length * 5 := flatMap_len (s := 5) fun _ _ => rfl
theorem rowCells_row (L : List FV) (i : Nat) (hi : i < L.length) : ((rowCells L).drop (i * 5)).take 5 = fCells L[i] := flatMap_row (s := 5) i hi fun _ _ => rfl
theorem rowCells_append (L M : List FV) : rowCells (L ++ M) = rowCells L ++ rowCells M := List.flatMap_append ..
theorem fCells_closed (f : FV) : closedL (fCells f) = true := by simp [fCells, closedL, AV.closed, u8s_closed, subCells_closed]
theorem rowCells_closed : ∀ L, closedL (rowCells L) = true
  | [] => rfl
  | f :: L => closedL_app (fCells_closed f) (rowCells_closed L)
theorem frameP_e {b : List Int} {e a : Int} (h : frameP b = .inl (e, a)) : ¬ e = 0 := by
  unfold frameP at h
  split at h
  · cases h; decide
  · split at h
    · cases h; decide
    · split at h
      · cases h; decide
      · cases h
theorem zeroR_sub : Sub (.agg [.str [], .nilS]) (.agg (rCells zeroR)) := sub_agg ⟨.refl _, .nil, trivial⟩
set_option maxRecDepth 100000 in
set_option maxHeartbeats 8000000 in
theorem PParse_c (b : List Int) (hl : b.length ≤ 9223372036854775807) (hb : inB b) : ACall Tryd.prog 17 [.sl b.length (u8s b)] (rres (rparse b)) none := by
  refine acall_intro none Tryd.func17 rfl (by kernel_rfl) (by simp [Tryd.f17]) ?_
  refine ex_run 100 ?_
  simp (maxSteps := 200000) only [Tryd.f17, push_cast, List.getD_cons_zero, List.getD_cons_succ, List.take_succ_cons, List.take_zero, List.drop_succ_cons, Nat.reduceLT, Nat.reduceLeDiff, Nat.reduceEqDiff, Nat.reduceAdd, Nat.reduceMul, Nat.reduceSub, Int.reduceToNat, Int.reduceLE, Int.reduceLT, Int.reduceEq, Int.reduceAdd, ↓reduceIte, decide_true, decide_false, and_self]
  refine call_intro (frame_c b (by omega)) (fun h => by cases h) ?_
  cases hf : frameP b with
  | inl x =>
    obtain ⟨e, a⟩ := x
    have he := frameP_e hf
    have hr : rparse b = .inl (e, a) := by unfold rparse; rw [hf]
    rw [hr]
    unfold frameR
    simp (maxSteps := 200000) only [flt, he, push_cast, List.getD_cons_zero, List.getD_cons_succ, List.take_succ_cons, List.take_zero, List.drop_succ_cons, Nat.reduceLT, Nat.reduceLeDiff, Nat.reduceEqDiff, Nat.reduceAdd, Nat.reduceMul, Nat.reduceSub, Int.reduceToNat, Int.reduceLE, Int.reduceLT, Int.reduceEq, Int.reduceAdd, ↓reduceIte, decide_true, decide_false, and_self]
    exact ⟨by kernel_rfl, by kernel_rfl, _, _, rfl, rfl, sub_tup ⟨zeroR_sub, .refl _, trivial⟩, rfl⟩
  | inr bs =>
    obtain ⟨f1, f2, f3, f4, f5, f6, f7, f8, f9⟩ := frameP_inr hf
    have hdl := dirOf_length hf
    have w1 : IntKind.i64.wrap (bs - 1) = bs - 1 := wrap_i64 (by omega)
    have i1 : (24 : Int) ≤ bs - 1 := by omega
    have i2 : bs - 1 ≤ (b.length : Int) := by omega
    have hdd : List.drop 24 (List.take (bs - 1).toNat b) = dirOf b bs := rfl
    have hdb : inB (dirOf b bs) := fun c hc => hb c (List.mem_of_mem_take (List.mem_of_mem_drop hc))
    unfold frameR
    simp (maxSteps := 200000) only [flt, w1, i1, i2, hdd, push_cast, List.getD_cons_zero, List.getD_cons_succ, List.take_succ_cons, List.take_zero, List.drop_succ_cons, Nat.reduceLT, Nat.reduceLeDiff, Nat.reduceEqDiff, Nat.reduceAdd, Nat.reduceMul, Nat.reduceSub, Int.reduceToNat, Int.reduceLE, Int.reduceLT, Int.reduceEq, Int.reduceAdd, ↓reduceIte, decide_true, decide_false, and_self]
    cases hd : dirBad (dirOf b bs) with
    | some j =>
      have hr : rparse b = .inl (11, 24 + 12 * (j : Int)) := by unfold rparse; rw [hf]; simp only; rw [hd]
      rw [hr]
      have hj := (dirBad_some hd).1
      refine call_intro (DParse_bad (dirOf b bs) _ (by omega) (by omega) hdb hd) (fun h => by cases h) ?_
      have w2 : IntKind.i64.wrap (24 + 12 * (j : Int)) = 24 + 12 * (j : Int) := wrap_i64 (by omega)
      simp (maxSteps := 200000) only [w2, push_cast, List.getD_cons_zero, List.getD_cons_succ, List.take_succ_cons, List.take_zero, List.drop_succ_cons, Nat.reduceLT, Nat.reduceLeDiff, Nat.reduceEqDiff, Nat.reduceAdd, Nat.reduceMul, Nat.reduceSub, Int.reduceToNat, Int.reduceLE, Int.reduceLT, Int.reduceEq, Int.reduceAdd, ↓reduceIte, decide_true, decide_false, and_self]
      refine call_intro (rfault_c 11 (24 + 12 * (j : Int))) (fun h => by cases h) ?_
      simp (maxSteps := 200000) only [flt, push_cast, List.getD_cons_zero, List.getD_cons_succ, List.take_succ_cons, List.take_zero, List.drop_succ_cons, Nat.reduceLT, Nat.reduceLeDiff, Nat.reduceEqDiff, Nat.reduceAdd, Nat.reduceMul, Nat.reduceSub, Int.reduceToNat, Int.reduceLE, Int.reduceLT, Int.reduceEq, Int.reduceAdd, ↓reduceIte, decide_true, decide_false, and_self]
      exact ⟨_, _, rfl, rfl, sub_tup ⟨zeroR_sub, .refl _, trivial⟩, rfl⟩
    | none =>
      obtain ⟨hd1, hd2⟩ := dirBad_none hd
      obtain ⟨n, hn⟩ : ∃ n, n = (dirOf b bs).length / 12 := ⟨_, rfl⟩
      have hr : rparse b = if bs + base (dirOf b bs) n ≠ (b.length : Int) - 1 then .inl (13, 12)
        else match fieldsP b bs.toNat (entsTo (dirOf b bs) n) with
          | .inl a => .inl (12, a)
          | .inr fs => .inr ⟨b.take 24, fs⟩ := by unfold rparse; rw [hf]; simp only [hd, hn] <;> rfl
      rw [hr]
      refine call_intro (DParse_ok (dirOf b bs) _ (by omega) (by omega) hdb hd n hn) (fun h => by cases h) ?_
      generalize dirOf b bs = d at *
      have hLl := entsTo_length d n
      have hget : ∀ (i : Nat) (h : i < (entsTo d n).length), goodTag (entsTo d n)[i].1 = true ∧ 1 ≤ (entsTo d n)[i].2.1 ∧ (entsTo d n)[i].2.2 = base d i ∧ base d (i + 1) = base d i + (entsTo d n)[i].2.1 := fun i h => by
        rw [entsTo_get d n i h]
        obtain ⟨g1, g2, g3, g4⟩ := good_out (hd2 i (by omega))
        exact ⟨g2, g3, g4, rfl⟩
      generalize hLL : entsTo d n = L at *
      have hcell := lCells_length L
      have hbase : ∀ i, i ≤ n → 0 ≤ base d i ∧ base d i ≤ 1000000000 := fun i hi => by have := base_small d i; omega
      simp (maxSteps := 200000) only [push_cast, List.getD_cons_zero, List.getD_cons_succ, List.take_succ_cons, List.take_zero, List.drop_succ_cons, Nat.reduceLT, Nat.reduceLeDiff, Nat.reduceEqDiff, Nat.reduceAdd, Nat.reduceMul, Nat.reduceSub, Int.reduceToNat, Int.reduceLE, Int.reduceLT, Int.reduceEq, Int.reduceAdd, ↓reduceIte, decide_true, decide_false, and_self]
      refine run_keep (l' := [(0, .sl b.length (u8s b)), (2, .addr 2 0 0), (3, .addr 3 1 0), (4, .int .i64 bs), (6, .own 30 17 0 n), (7, .int .i64 (bs + base d 0)), (44, .own 30 17 0 n), (45, .int .i64 n), (46, .int .i64 0)]) (t' := [(2, ⟨0, 1, [.str [], .nilS]⟩), (3, ⟨1, 1, [.int .i64 0, .int .i64 0]⟩), (30, ⟨17, 3, lCells L⟩)]) (nx' := _) ⟨.refl _, .refl _, .refl _, .refl _, .refl _, .of_eq (by simp [base]), .refl _, .refl _, .refl _, trivial⟩ ⟨⟨_, rfl, rfl, rfl, SubL.refl _⟩, ⟨_, rfl, rfl, rfl, SubL.refl _⟩, ⟨_, rfl, rfl, rfl, SubL.refl _⟩, trivial⟩ (Nat.le_refl _) ?_
      refine run_loop (fun k s => ∃ (i nx : Nat), i ≤ n ∧ k = n - i ∧ s = mkS [(0, .sl b.length (u8s b)), (2, .addr 2 0 0), (3, .addr 3 1 0), (4, .int .i64 bs), (6, .own 30 17 0 n), (7, .int .i64 (bs + base d i)), (44, .own 30 17 0 n), (45, .int .i64 n), (46, .int .i64 i)] [(2, ⟨0, 1, [.str [], .nilS]⟩), (3, ⟨1, 1, [.int .i64 0, .int .i64 0]⟩), (30, ⟨17, 3, lCells L⟩)] nx) _ ⟨0, _, Nat.zero_le _, rfl, rfl⟩ ?_
      rintro k s ⟨i, nx, hi, rfl, rfl⟩
      by_cases h : i < n
      · have hrow := lCells_row L i (by omega)
        obtain ⟨g1, g2, g3, g4⟩ := hget i (by omega)
        have hb1 := hbase i (by omega)
        have hb2 := hbase (i + 1) (by omega)
        have hw : IntKind.i64.wrap ((i : Int) + 1) = ((i + 1 : Nat) : Int) := by rw [wrap_i64 (by omega)]; omega
        obtain ⟨bi, hbi⟩ : ∃ v, base d (i + 1) = v := ⟨_, rfl⟩
        have w2 : IntKind.i64.wrap (bs + base d i + L[i].2.1) = bs + bi := by rw [wrap_i64 (by omega)]; omega
        generalize base d i = bd at *
        generalize hq : L[i] = q at *
        obtain ⟨tag, ln, st⟩ := q
        simp only [eCells] at hrow
        simp only at w2
        have hle : i * 3 + 3 ≤ n * 3 := by omega
        refine ex_run 100 ?_
        simp (maxSteps := 200000) only [h, hrow, hcell, hLl, hle, hw, w2, push_cast, List.getD_cons_zero, List.getD_cons_succ, List.take_succ_cons, List.take_zero, List.drop_succ_cons, Nat.reduceLT, Nat.reduceLeDiff, Nat.reduceEqDiff, Nat.reduceAdd, Nat.reduceMul, Nat.reduceSub, Int.reduceToNat, Int.reduceLE, Int.reduceLT, Int.reduceEq, Int.reduceAdd, ↓reduceIte, decide_true, decide_false, and_self]
        refine run_back_le (le_mk (l' := [(0, .sl b.length (u8s b)), (2, .addr 2 0 0), (3, .addr 3 1 0), (4, .int .i64 bs), (6, .own 30 17 0 n), (7, .int .i64 (bs + bi)), (44, .own 30 17 0 n), (45, .int .i64 n), (46, .int .i64 ((i + 1 : Nat) : Int))]) (t' := [(2, ⟨0, 1, [.str [], .nilS]⟩), (3, ⟨1, 1, [.int .i64 0, .int .i64 0]⟩), (30, ⟨17, 3, lCells L⟩)]) (nx' := _) ⟨.refl _, .refl _, .refl _, .refl _, .refl _, .refl _, .refl _, .refl _, .of_eq (congrArg (AV.int .i64) (by omega)), trivial⟩ ⟨⟨_, rfl, rfl, rfl, SubL.refl _⟩, ⟨_, rfl, rfl, rfl, SubL.refl _⟩, ⟨_, rfl, rfl, rfl, SubL.refl _⟩, trivial⟩ (Nat.le_refl _)) ?_
        exact ⟨n - (i + 1), by omega, i + 1, _, by omega, rfl, by rw [hbi]⟩
      · have hin : i = n := by omega
        subst hin
        have w2 : IntKind.i64.wrap ((b.length : Int) - 1) = (b.length : Int) - 1 := wrap_i64 (by omega)
        by_cases hend : bs + base d i = (b.length : Int) - 1
        · rw [if_neg (by rw [hend]; simp)]
          have h24 : (24 : Int) ≤ (b.length : Int) := by omega
          have hu : u8n (b.take 24) = b.take 24 := u8n_eq fun c hc => hb c (List.mem_of_mem_take hc)
          refine ex_run 100 ?_
          simp (maxSteps := 200000) only [h, w2, hend, h24, hu, push_cast, List.getD_cons_zero, List.getD_cons_succ, List.take_succ_cons, List.take_zero, List.drop_succ_cons, Nat.reduceLT, Nat.reduceLeDiff, Nat.reduceEqDiff, Nat.reduceAdd, Nat.reduceMul, Nat.reduceSub, Int.reduceToNat, Int.reduceLE, Int.reduceLT, Int.reduceEq, Int.reduceAdd, ↓reduceIte, decide_true, decide_false, and_self]
          have h24l : (b.take 24).length = 24 := by rw [List.length_take]; omega
          refine ⟨h24l, ?_⟩
          generalize nx + 1 + 5 + 1 + 1 + 1 + 1 = g10
          refine run_lazyCell 10 1 100 5 ⟨g10, 1, [.str (b.take 24), .nilS]⟩ rfl rfl (by decide) ?_
          refine run_keep (l' := [(0, .sl b.length (u8s b)), (2, .addr 2 0 0), (3, .addr 3 1 0), (4, .int .i64 bs), (10, .addr 10 g10 0), (66, .own 30 17 0 i), (67, .int .i64 i), (68, .int .i64 0)]) (t' := [(10, ⟨g10, 1, [.str (b.take 24), .own 100 _ 0 0]⟩), (100, ⟨_, 5, rowCells []⟩), (2, ⟨0, 1, [.str [], .nilS]⟩), (3, ⟨1, 1, [.int .i64 0, .int .i64 0]⟩), (30, ⟨17, 3, lCells L⟩)]) (nx' := _) ⟨.refl _, .refl _, .refl _, .refl _, .refl _, .refl _, .refl _, .refl _, trivial⟩ ⟨⟨_, rfl, rfl, rfl, SubL.refl _⟩, ⟨_, rfl, rfl, rfl, SubL.refl _⟩, ⟨_, rfl, rfl, rfl, SubL.refl _⟩, ⟨_, rfl, rfl, rfl, SubL.refl _⟩, ⟨_, rfl, rfl, rfl, SubL.refl _⟩, trivial⟩ (Nat.le_refl _) ?_
          refine run_loop (fun k s => ∃ (j g nx : Nat) (fs : List FV), j ≤ i ∧ k = i - j ∧ fs.length = j ∧ fieldsP b bs.toNat L = preF fs (fieldsP b bs.toNat (L.drop j)) ∧ s = mkS [(0, .sl b.length (u8s b)), (2, .addr 2 0 0), (3, .addr 3 1 0), (4, .int .i64 bs), (10, .addr 10 g10 0), (66, .own 30 17 0 i), (67, .int .i64 i), (68, .int .i64 j)] [(10, ⟨g10, 1, [.str (b.take 24), .own 100 g 0 j]⟩), (100, ⟨g, 5, rowCells fs⟩), (2, ⟨0, 1, [.str [], .nilS]⟩), (3, ⟨1, 1, [.int .i64 0, .int .i64 0]⟩), (30, ⟨17, 3, lCells L⟩)] nx) _ ⟨0, _, _, [], Nat.zero_le _, rfl, rfl, by rw [preF_nil]; rfl, rfl⟩ ?_
          rintro k s ⟨j, g, nx, fs, hj, rfl, hfl, hfP, rfl⟩
          have hrl := rowCells_length fs
          by_cases hji : j < i
          · have hrow := lCells_row L j (by omega)
            obtain ⟨g1, g2, g3, g4⟩ := hget j (by omega)
            have hb1 := hbase j (by omega)
            have hb2 := hbase (j + 1) (by omega)
            have hmono := base_mono d (i := j + 1) (j := i) (by omega)
            have hw : IntKind.i64.wrap ((j : Int) + 1) = ((j + 1 : Nat) : Int) := by rw [wrap_i64 (by omega)]; omega
            have hfd := fieldsP_drop b bs.toNat L j (by omega)
            have hone := rone_c b bs.toNat L[j] (by omega) (by have := goodTag_len g1; omega) (by omega) g2 (by omega)
            rw [show ((bs.toNat : Nat) : Int) = bs by omega] at hone
            generalize hq : L[j] = q at *
            obtain ⟨tag, ln, st⟩ := q
            simp only [eCells] at hrow hone
            have hle : j * 3 + 3 ≤ i * 3 := by omega
            refine ex_run 100 ?_
            simp (maxSteps := 200000) only [hji, hrow, hcell, hLl, hle, push_cast, List.getD_cons_zero, List.getD_cons_succ, List.take_succ_cons, List.take_zero, List.drop_succ_cons, Nat.reduceLT, Nat.reduceLeDiff, Nat.reduceEqDiff, Nat.reduceAdd, Nat.reduceMul, Nat.reduceSub, Int.reduceToNat, Int.reduceLE, Int.reduceLT, Int.reduceEq, Int.reduceAdd, ↓reduceIte, decide_true, decide_false, and_self]
            refine call_intro hone (fun h => by cases h) ?_
            cases hp : oneP b bs.toNat (tag, ln, st) with
            | inl a =>
              rw [hp] at hfd
              have hr2 : fieldsP b bs.toNat L = .inl a := by rw [hfP, hfd]; rfl
              rw [hr2]
              unfold fres
              simp (maxSteps := 200000) only [fCells, zeroF, subCells_nil, u8s_nil, push_cast, List.getD_cons_zero, List.getD_cons_succ, List.take_succ_cons, List.take_zero, List.drop_succ_cons, Nat.reduceLT, Nat.reduceLeDiff, Nat.reduceEqDiff, Nat.reduceAdd, Nat.reduceMul, Nat.reduceSub, Int.reduceToNat, Int.reduceLE, Int.reduceLT, Int.reduceEq, Int.reduceAdd, ↓reduceIte, decide_true, decide_false, and_self]
              exact ⟨by kernel_rfl, by kernel_rfl, _, _, rfl, rfl, sub_tup ⟨zeroR_sub, .refl _, trivial⟩, rfl⟩
            | inr f =>
              rw [hp] at hfd
              have hcl : closedL (subCells f.subs) = true := subCells_closed _
              unfold fres
              simp (maxSteps := 200000) only [fCells, hcl, hrl, hfl, hw, push_cast, List.getD_cons_zero, List.getD_cons_succ, List.take_succ_cons, List.take_zero, List.drop_succ_cons, Nat.reduceLT, Nat.reduceLeDiff, Nat.reduceEqDiff, Nat.reduceAdd, Nat.reduceMul, Nat.reduceSub, Int.reduceToNat, Int.reduceLE, Int.reduceLT, Int.reduceEq, Int.reduceAdd, ↓reduceIte, decide_true, decide_false, and_self]
              have e : rowCells fs ++ [.str f.tag, .sl f.text.length (u8s f.text), .int .u8 f.i0, .int .u8 f.i1, .sl f.subs.length (subCells f.subs)] = rowCells (fs ++ [f]) := by rw [rowCells_append]; rfl
              refine ⟨⟨by omega, by omega⟩, ?_⟩
              rw [e]
              refine run_back_le (le_mk (l' := [(0, .sl b.length (u8s b)), (2, .addr 2 0 0), (3, .addr 3 1 0), (4, .int .i64 bs), (10, .addr 10 g10 0), (66, .own 30 17 0 i), (67, .int .i64 i), (68, .int .i64 ((j + 1 : Nat) : Int))]) (t' := [(10, ⟨g10, 1, [.str (b.take 24), .own 100 _ 0 (j + 1)]⟩), (100, ⟨_, 5, rowCells (fs ++ [f])⟩), (2, ⟨0, 1, [.str [], .nilS]⟩), (3, ⟨1, 1, [.int .i64 0, .int .i64 0]⟩), (30, ⟨17, 3, lCells L⟩)]) (nx' := _) ⟨.refl _, .refl _, .refl _, .refl _, .refl _, .refl _, .refl _, .of_eq (congrArg (AV.int .i64) (by omega)), trivial⟩ ⟨⟨_, rfl, rfl, rfl, SubL.refl _⟩, ⟨_, rfl, rfl, rfl, SubL.refl _⟩, ⟨_, rfl, rfl, rfl, SubL.refl _⟩, ⟨_, rfl, rfl, rfl, SubL.refl _⟩, ⟨_, rfl, rfl, rfl, SubL.refl _⟩, trivial⟩ (Nat.le_refl _)) ?_
              exact ⟨i - (j + 1), by omega, j + 1, _, _, fs ++ [f], by omega, rfl, by simp [hfl], by rw [hfP, hfd]; simp only; rw [preF_preF], rfl⟩
          · have hje : j = i := by omega
            subst hje
            have hr2 : fieldsP b bs.toNat L = .inr fs := by rw [hfP, List.drop_of_length_le (by omega)]; simp [fieldsP, preF]
            rw [hr2]
            refine ex_run 100 ?_
            simp (maxSteps := 200000) only [hji, push_cast, List.getD_cons_zero, List.getD_cons_succ, List.take_succ_cons, List.take_zero, List.drop_succ_cons, Nat.reduceLT, Nat.reduceLeDiff, Nat.reduceEqDiff, Nat.reduceAdd, Nat.reduceMul, Nat.reduceSub, Int.reduceToNat, Int.reduceLE, Int.reduceLT, Int.reduceEq, Int.reduceAdd, ↓reduceIte, decide_true, decide_false, and_self]
            have htk : (rowCells fs).take (j * 5) = rowCells fs := List.take_of_length_le (by omega)
            exact ⟨[.agg [.str (b.take 24), .own 100 g 0 j], .agg [.int .i64 0, .int .i64 0]], [.agg [.str (b.take 24), .sl j (rowCells fs)], .agg [.int .i64 0, .int .i64 0]], by kernel_rfl, by simp [outA, outV, outL, outC, mkS_env, mkS_tk, lkF, lkG, AV.closed, htk, rowCells_closed], .of_eq (by rw [← hfl]; rfl), rfl⟩
        · rw [if_pos hend]
          refine ex_run 100 ?_
          simp (maxSteps := 200000) only [h, w2, hend, push_cast, List.getD_cons_zero, List.getD_cons_succ, List.take_succ_cons, List.take_zero, List.drop_succ_cons, Nat.reduceLT, Nat.reduceLeDiff, Nat.reduceEqDiff, Nat.reduceAdd, Nat.reduceMul, Nat.reduceSub, Int.reduceToNat, Int.reduceLE, Int.reduceLT, Int.reduceEq, Int.reduceAdd, ↓reduceIte, decide_true, decide_false, and_self]
          refine call_intro (rfault_c 13 12) (fun h => by cases h) ?_
          simp (maxSteps := 200000) only [flt, push_cast, List.getD_cons_zero, List.getD_cons_succ, List.take_succ_cons, List.take_zero, List.drop_succ_cons, Nat.reduceLT, Nat.reduceLeDiff, Nat.reduceEqDiff, Nat.reduceAdd, Nat.reduceMul, Nat.reduceSub, Int.reduceToNat, Int.reduceLE, Int.reduceLT, Int.reduceEq, Int.reduceAdd, ↓reduceIte, decide_true, decide_false, and_self]
          exact ⟨_, _, rfl, rfl, sub_tup ⟨zeroR_sub, .refl _, trivial⟩, rfl⟩
end Go.Proofs.YteapibifebnboaaDoor
