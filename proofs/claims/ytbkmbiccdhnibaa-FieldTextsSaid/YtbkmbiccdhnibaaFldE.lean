/- ref01.Same, ref19.free, ref19.Bytes -/
import Derived.Test.YtbkmbiccdhnibaaFldD
set_option linter.unusedVariables false
set_option linter.unusedSimpArgs false
namespace Go.Proofs.Ytbkmbiccdhnibaa
open Go Go.Eng
set_option maxRecDepth 100000 in
theorem rfree_c (c : Int) : ACall Try.prog 50 [.int .u8 c] (.bool (freeB c)) none := by
  refine acall_intro none Try.func50 rfl (by kernel_rfl) (by simp [Try.f50]) ?_
  refine ex_run 30 ?_
  by_cases h1 : c < 29
  · simp (maxSteps := 200000) only [Try.f50, h1, push_cast, List.getD_cons_zero, List.getD_cons_succ, List.take_succ_cons, List.take_zero, List.drop_succ_cons, Nat.reduceLT, Nat.reduceLeDiff, Nat.reduceEqDiff, Nat.reduceAdd, Nat.reduceMul, Nat.reduceSub, Int.reduceToNat, Int.reduceLE, Int.reduceLT, Int.reduceEq, Int.reduceAdd, ↓reduceIte, decide_true, decide_false, and_self]
    exact ⟨_, _, rfl, rfl, .of_eq (by simp [freeB, pack, mkS_env, lkF]; omega), rfl⟩
  · simp (maxSteps := 200000) only [Try.f50, h1, push_cast, List.getD_cons_zero, List.getD_cons_succ, List.take_succ_cons, List.take_zero, List.drop_succ_cons, Nat.reduceLT, Nat.reduceLeDiff, Nat.reduceEqDiff, Nat.reduceAdd, Nat.reduceMul, Nat.reduceSub, Int.reduceToNat, Int.reduceLE, Int.reduceLT, Int.reduceEq, Int.reduceAdd, ↓reduceIte, decide_true, decide_false, and_self]
    refine ⟨_, _, rfl, rfl, .of_eq (congrArg AV.bool ?_), rfl⟩
    by_cases h2 : 31 < c
    · simp [freeB, h2]; omega
    · simp [freeB, h2]; omega
theorem take_eq_succ {a b : List Int} {i : Nat} (ha : i < a.length) (hb : i < b.length) (h : a.take i = b.take i) (he : a.getD i 0 = b.getD i 0) : a.take (i + 1) = b.take (i + 1) := by
  rw [take_succ_getD ha, take_succ_getD hb, h, he]
theorem getD_ne {a b : List Int} {i : Nat} (he : a.getD i 0 ≠ b.getD i 0) : (a == b) = false := by
  rw [beq_eq_false_iff_ne]; intro h; exact he (by rw [h])
set_option maxRecDepth 100000 in
theorem same_c (a b : List Int) (ha : a.length ≤ 9223372036854775807) : ACall Try.prog 27 [.sl a.length (u8s a), .sl b.length (u8s b)] (.bool (a == b)) none := by
  refine acall_intro none Try.func27 rfl (by kernel_rfl) (by simp [Try.f27]) ?_
  refine ex_run 30 ?_
  by_cases hl : a.length = b.length
  · have hl' : (a.length : Int) = (b.length : Int) := by omega
    simp (maxSteps := 200000) only [Try.f27, hl', push_cast, List.getD_cons_zero, List.getD_cons_succ, List.take_succ_cons, List.take_zero, List.drop_succ_cons, Nat.reduceLT, Nat.reduceLeDiff, Nat.reduceEqDiff, Nat.reduceAdd, Nat.reduceMul, Nat.reduceSub, Int.reduceToNat, Int.reduceLE, Int.reduceLT, Int.reduceEq, Int.reduceAdd, ↓reduceIte, decide_true, decide_false, and_self]
    refine run_keep (l' := [(0, .sl a.length (u8s a)), (1, .sl b.length (u8s b)), (4, .bool false), (5, .int .i64 0)]) (t' := []) (nx' := _) ⟨.refl _, .refl _, .refl _, .refl _, trivial⟩ trivial (Nat.le_refl _) ?_
    refine run_loop (fun n s => ∃ (i nx : Nat), i ≤ a.length ∧ n = a.length - i ∧ a.take i = b.take i ∧ s = mkS [(0, .sl a.length (u8s a)), (1, .sl b.length (u8s b)), (4, .bool false), (5, .int .i64 i)] [] nx) _ ⟨0, _, Nat.zero_le _, rfl, rfl, rfl⟩ ?_
    rintro n s ⟨i, nx, hi, rfl, heq, rfl⟩
    by_cases h : i < a.length
    · have hb : i < b.length := by omega
      have ga := u8s_getD a i h
      have gb := u8s_getD b i hb
      have pa : 0 < a.length := by omega
      have pb : 0 < b.length := by omega
      have hw : IntKind.i64.wrap ((i : Int) + 1) = ((i + 1 : Nat) : Int) := by rw [wrap_i64 (by omega)]; omega
      refine ex_run 30 ?_
      by_cases he : a.getD i 0 = b.getD i 0
      · have hs := take_eq_succ h hb heq he
        simp (maxSteps := 200000) only [h, hb, ga, gb, pa, pb, he, hw, push_cast, List.getD_cons_zero, List.getD_cons_succ, List.take_succ_cons, List.take_zero, List.drop_succ_cons, Nat.reduceLT, Nat.reduceLeDiff, Nat.reduceEqDiff, Nat.reduceAdd, Nat.reduceMul, Nat.reduceSub, Int.reduceToNat, Int.reduceLE, Int.reduceLT, Int.reduceEq, Int.reduceAdd, ↓reduceIte, decide_true, decide_false, and_self]
        refine ⟨by kernel_rfl, by kernel_rfl, ?_⟩
        refine run_back_le (le_mk (l' := [(0, .sl a.length (u8s a)), (1, .sl b.length (u8s b)), (4, .bool false), (5, .int .i64 ((i + 1 : Nat) : Int))]) (t' := []) (nx' := _) ⟨.refl _, .refl _, .refl _, .of_eq (congrArg (AV.int .i64) (by omega)), trivial⟩ trivial (Nat.le_refl _)) ?_
        exact ⟨a.length - (i + 1), by omega, i + 1, _, by omega, rfl, hs, rfl⟩
      · simp (maxSteps := 200000) only [h, hb, ga, gb, pa, pb, he, hw, push_cast, List.getD_cons_zero, List.getD_cons_succ, List.take_succ_cons, List.take_zero, List.drop_succ_cons, Nat.reduceLT, Nat.reduceLeDiff, Nat.reduceEqDiff, Nat.reduceAdd, Nat.reduceMul, Nat.reduceSub, Int.reduceToNat, Int.reduceLE, Int.reduceLT, Int.reduceEq, Int.reduceAdd, ↓reduceIte, decide_true, decide_false, and_self]
        refine ⟨by kernel_rfl, by kernel_rfl, ?_⟩
        exact ⟨_, _, rfl, rfl, .of_eq (by rw [getD_ne he]; rfl), rfl⟩
    · refine ex_run 30 ?_
      simp (maxSteps := 200000) only [h, push_cast, List.getD_cons_zero, List.getD_cons_succ, List.take_succ_cons, List.take_zero, List.drop_succ_cons, Nat.reduceLT, Nat.reduceLeDiff, Nat.reduceEqDiff, Nat.reduceAdd, Nat.reduceMul, Nat.reduceSub, Int.reduceToNat, Int.reduceLE, Int.reduceLT, Int.reduceEq, Int.reduceAdd, ↓reduceIte, decide_true, decide_false, and_self]
      rw [List.take_of_length_le (by omega), List.take_of_length_le (by omega)] at heq
      exact ⟨_, _, rfl, rfl, .of_eq (by rw [heq, beq_self_eq_true]; rfl), rfl⟩
  · have hl' : ¬ (a.length : Int) = (b.length : Int) := by omega
    simp (maxSteps := 200000) only [Try.f27, hl', push_cast, List.getD_cons_zero, List.getD_cons_succ, List.take_succ_cons, List.take_zero, List.drop_succ_cons, Nat.reduceLT, Nat.reduceLeDiff, Nat.reduceEqDiff, Nat.reduceAdd, Nat.reduceMul, Nat.reduceSub, Int.reduceToNat, Int.reduceLE, Int.reduceLT, Int.reduceEq, Int.reduceAdd, ↓reduceIte, decide_true, decide_false, and_self]
    have e : (a == b) = false := by rw [beq_eq_false_iff_ne]; intro h; exact hl (by rw [h])
    exact ⟨_, _, rfl, rfl, .of_eq (by rw [e]; rfl), rfl⟩
def subB (s : SubV) : List Int := 31 :: s.1 :: s.2
/-- A field's bytes. -/
def fbytes (f : FV) : List Int := if ctl f.tag = true then f.text else f.i0 :: f.i1 :: f.subs.flatMap subB
theorem subCells_get (L : List SubV) (i j : Nat) (hi : i < L.length) (hj : j < 2) : (subCells L).getD (i * 2 + j) .dead = (sCells L[i]).getD j .dead := by
  have h : ∀ (l : List SubV) (i : Nat) (hi : i < l.length), (subCells l).drop (i * 2) = sCells l[i] ++ (subCells l).drop (i * 2 + 2) := by
    intro l
    induction l with
    | nil => intro i hi; simp at hi
    | cons a l ih =>
      intro i hi
      cases i with
      | zero => simp [subCells, sCells]
      | succ i =>
        have := ih i (by simpa using hi)
        have e : ∀ m, (subCells (a :: l)).drop (m + 2) = (subCells l).drop m := fun m => by
          show (sCells a ++ subCells l).drop (m + 2) = _
          rw [List.drop_append, show (sCells a).length = 2 from rfl, List.drop_of_length_le (by simp [sCells])]; simp
        rw [Nat.succ_mul, e, this, e]; rfl
  rw [List.getD_eq_getElem?_getD, List.getD_eq_getElem?_getD, ← List.getElem?_drop, h L i hi, List.getElem?_append_left (by simp [sCells]; omega)]
theorem flat_snoc (L : List SubV) (i : Nat) (hi : i < L.length) : (L.take (i + 1)).flatMap subB = (L.take i).flatMap subB ++ subB L[i] := by
  rw [List.take_add_one, List.getElem?_eq_getElem hi, List.flatMap_append]; simp
theorem flat_le (L : List SubV) (i : Nat) : ((L.take i).flatMap subB).length ≤ (L.flatMap subB).length := by
  conv => rhs; rw [← List.take_append_drop i L, List.flatMap_append, List.length_append]
  omega
theorem sub_len_le {L : List SubV} {s : SubV} (h : s ∈ L) : s.2.length ≤ (L.flatMap subB).length := by
  obtain ⟨a, b, rfl⟩ := List.append_of_mem h
  simp [subB]; omega
theorem flat_cnt : ∀ L : List SubV, L.length * 2 ≤ (L.flatMap subB).length
  | [] => by simp
  | s :: L => by have := flat_cnt L; rw [List.flatMap_cons, List.length_append, List.length_cons]; simp only [subB, List.length_cons]; omega
def outB (f : FV) (i : Nat) : List Int := f.i0 :: f.i1 :: (f.subs.take i).flatMap subB
theorem outB_succ (f : FV) (i : Nat) (hi : i < f.subs.length) : outB f (i + 1) = outB f i ++ 31 :: f.subs[i].1 :: f.subs[i].2 := by
  unfold outB; rw [flat_snoc _ _ hi]; rfl
set_option maxRecDepth 100000 in
set_option maxHeartbeats 4000000 in
theorem rbytes_c (f : FV) (ht : f.tag.length ≤ 9223372036854775807) (hb : (fbytes f).length ≤ 70368744177664) : ACall Try.prog 25 [.agg (fCells f)] (.own 0 0 0 (fbytes f).length) (some ⟨0, 1, u8s (fbytes f)⟩) := by
  cases hc : ctl f.tag with
  | true =>
    have e : fbytes f = f.text := by unfold fbytes; rw [if_pos hc]
    rw [e] at hb ⊢
    refine acall_intro (some 8) Try.func25 rfl (by kernel_rfl) (by simp [Try.f25]) ?_
    refine ex_run 30 ?_
    simp (maxSteps := 200000) only [Try.f25, fCells, push_cast, List.getD_cons_zero, List.getD_cons_succ, List.take_succ_cons, List.take_zero, List.drop_succ_cons, Nat.reduceLT, Nat.reduceLeDiff, Nat.reduceEqDiff, Nat.reduceAdd, Nat.reduceMul, Nat.reduceSub, Int.reduceToNat, Int.reduceLE, Int.reduceLT, Int.reduceEq, Int.reduceAdd, ↓reduceIte, decide_true, decide_false, and_self]
    refine call_intro (RControl_c f.tag ht) (fun h => by cases h) ?_
    rw [show List.isPrefixOf [48, 48] f.tag = true from hc]
    simp (maxSteps := 200000) only [push_cast, List.getD_cons_zero, List.getD_cons_succ, List.take_succ_cons, List.take_zero, List.drop_succ_cons, Nat.reduceLT, Nat.reduceLeDiff, Nat.reduceEqDiff, Nat.reduceAdd, Nat.reduceMul, Nat.reduceSub, Int.reduceToNat, Int.reduceLE, Int.reduceLT, Int.reduceEq, Int.reduceAdd, ↓reduceIte, decide_true, decide_false, and_self]
    refine ⟨⟨by omega, by omega⟩, ?_⟩
    exact ⟨_, [.own 0 0 0 f.text.length], rfl, by simp [outA, outV, outC, mkS_env, mkS_tk, lkF, lkG, AV.closed], .refl _, ⟨_, rfl, u8s_closed _, rfl⟩⟩
  | false =>
    have e : fbytes f = f.i0 :: f.i1 :: f.subs.flatMap subB := by unfold fbytes; rw [if_neg (by rw [hc]; simp)]
    rw [e] at hb ⊢
    refine acall_intro (some 18) Try.func25 rfl (by kernel_rfl) (by simp [Try.f25]) ?_
    refine ex_run 30 ?_
    simp (maxSteps := 200000) only [Try.f25, fCells, push_cast, List.getD_cons_zero, List.getD_cons_succ, List.take_succ_cons, List.take_zero, List.drop_succ_cons, Nat.reduceLT, Nat.reduceLeDiff, Nat.reduceEqDiff, Nat.reduceAdd, Nat.reduceMul, Nat.reduceSub, Int.reduceToNat, Int.reduceLE, Int.reduceLT, Int.reduceEq, Int.reduceAdd, ↓reduceIte, decide_true, decide_false, and_self]
    refine call_intro (RControl_c f.tag ht) (fun h => by cases h) ?_
    rw [show List.isPrefixOf [48, 48] f.tag = false from hc]
    simp (maxSteps := 200000) only [push_cast, List.getD_cons_zero, List.getD_cons_succ, List.take_succ_cons, List.take_zero, List.drop_succ_cons, Nat.reduceLT, Nat.reduceLeDiff, Nat.reduceEqDiff, Nat.reduceAdd, Nat.reduceMul, Nat.reduceSub, Int.reduceToNat, Int.reduceLE, Int.reduceLT, Int.reduceEq, Int.reduceAdd, ↓reduceIte, decide_true, decide_false, and_self]
    refine run_keep (l' := [(1, .addr 1 0 0), (3, .own 18 11 0 (outB f 0).length), (4, .int .i64 0)]) (t' := [(18, ⟨11, 1, u8s (outB f 0)⟩), (1, ⟨0, 1, fCells f⟩)]) (nx' := _) ⟨.refl _, .refl _, .refl _, trivial⟩ ⟨⟨_, rfl, rfl, rfl, SubL.refl _⟩, ⟨_, rfl, rfl, rfl, SubL.refl _⟩, trivial⟩ (Nat.le_refl _) ?_
    refine run_loop (fun n s => ∃ (i g nx : Nat), i ≤ f.subs.length ∧ n = f.subs.length - i ∧ s = mkS [(1, .addr 1 0 0), (3, .own 18 g 0 (outB f i).length), (4, .int .i64 i)] [(18, ⟨g, 1, u8s (outB f i)⟩), (1, ⟨0, 1, fCells f⟩)] nx) _ ⟨0, 11, _, Nat.zero_le _, rfl, rfl⟩ ?_
    rintro n s ⟨i, g, nx, hi, rfl, rfl⟩
    have hbl : (f.subs.flatMap subB).length + 2 ≤ 70368744177664 := by simpa using hb
    have hcnt := flat_cnt f.subs
    by_cases h : i < f.subs.length
    · have g0 := subCells_get f.subs i 0 h (by omega)
      have g1 := subCells_get f.subs i 1 h (by omega)
      have hsl := subCells_length f.subs
      have hpos : 0 < f.subs.length * 2 := by omega
      have l0 : i * 2 < f.subs.length * 2 := by omega
      have l1 : i * 2 + 1 < f.subs.length * 2 := by omega
      have hw : IntKind.i64.wrap ((i : Int) + 1) = ((i + 1 : Nat) : Int) := by rw [wrap_i64 (by omega)]; omega
      have hos := outB_succ f i h
      have hle := flat_le f.subs (i + 1)
      have hol : (outB f (i + 1)).length = ((f.subs.take (i + 1)).flatMap subB).length + 2 := by simp [outB]
      have hol2 := congrArg List.length hos
      simp only [List.length_append, List.length_cons] at hol2
      generalize f.subs[i] = q at *
      obtain ⟨c, tx⟩ := q
      simp only [sCells, List.getD_cons_zero, List.getD_cons_succ, Nat.add_zero] at g0 g1
      simp only at hos hol2
      refine ex_run 30 ?_
      simp (maxSteps := 200000) only [fCells, h, g0, g1, hsl, hpos, l0, l1, hw, push_cast, List.getD_cons_zero, List.getD_cons_succ, List.take_succ_cons, List.take_zero, List.drop_succ_cons, Nat.reduceLT, Nat.reduceLeDiff, Nat.reduceEqDiff, Nat.reduceAdd, Nat.reduceMul, Nat.reduceSub, Int.reduceToNat, Int.reduceLE, Int.reduceLT, Int.reduceEq, Int.reduceAdd, ↓reduceIte, decide_true, decide_false, and_self]
      refine ⟨by kernel_rfl, ⟨by omega, by omega⟩, ⟨by simp [u8s], by omega, by omega⟩, by kernel_rfl, ?_⟩
      have hoc : u8s (outB f i) ++ [.int .u8 31, .int .u8 c] ++ u8s tx = u8s (outB f (i + 1)) := by rw [hos]; simp [u8s]
      have hol3 : (outB f i).length + 2 + tx.length = (outB f (i + 1)).length := by omega
      rw [hoc, hol3]
      refine run_back_le (le_mk (l' := [(1, .addr 1 0 0), (3, .own 18 _ 0 (outB f (i + 1)).length), (4, .int .i64 ((i + 1 : Nat) : Int))]) (t' := [(18, ⟨_, 1, u8s (outB f (i + 1))⟩), (1, ⟨0, 1, fCells f⟩)]) (nx' := _)
        ⟨.refl _, .refl _, .of_eq (congrArg (AV.int .i64) (by omega)), trivial⟩ ⟨⟨_, rfl, rfl, rfl, SubL.refl _⟩, ⟨_, rfl, rfl, rfl, SubL.refl _⟩, trivial⟩ (Nat.le_refl _)) ?_
      exact ⟨f.subs.length - (i + 1), by omega, i + 1, _, _, by omega, rfl, rfl⟩
    · have hie : i = f.subs.length := by omega
      subst hie
      refine ex_run 30 ?_
      simp (maxSteps := 200000) only [fCells, h, push_cast, List.getD_cons_zero, List.getD_cons_succ, List.take_succ_cons, List.take_zero, List.drop_succ_cons, Nat.reduceLT, Nat.reduceLeDiff, Nat.reduceEqDiff, Nat.reduceAdd, Nat.reduceMul, Nat.reduceSub, Int.reduceToNat, Int.reduceLE, Int.reduceLT, Int.reduceEq, Int.reduceAdd, ↓reduceIte, decide_true, decide_false, and_self]
      have hoe : outB f f.subs.length = f.i0 :: f.i1 :: f.subs.flatMap subB := by unfold outB; rw [List.take_length]
      rw [hoe]
      exact ⟨_, [.own 0 0 0 (f.i0 :: f.i1 :: f.subs.flatMap subB).length], rfl, by simp [outA, outV, outC, mkS_env, mkS_tk, lkF, lkG, AV.closed], .refl _, ⟨_, rfl, u8s_closed _, rfl⟩⟩
end Go.Proofs.Ytbkmbiccdhnibaa
