/- ref19.Good; law21.answers; law21.small -/
import Derived.Test.YtbkmbiccdhnibaaFldH
import Derived.Test.YtbkmbiccdhnibaaE20
set_option linter.unusedVariables false
set_option linter.unusedSimpArgs false
namespace Go.Proofs.Ytbkmbiccdhnibaa
open Go Go.Eng
theorem rbytes_s (f : FV) (ht : f.tag.length ≤ 9223372036854775807) (hb : (fbytes f).length ≤ 70368744177664) : ACall Try.prog 25 [.agg (fCells f)] (.sl (fbytes f).length (u8s (fbytes f))) none := by
  have := acall_sl (rbytes_c f ht hb) (by simp [u8s])
  rw [show (Tok.mk 0 1 (u8s (fbytes f))).cs.take ((fbytes f).length * (Tok.mk 0 1 (u8s (fbytes f))).sz) = u8s (fbytes f) from List.take_of_length_le (by simp [u8s])] at this
  exact this
def goodF (f : FV) : Bool := match fparse f.tag (fbytes f) with
  | .inr g => sameB f g
  | .inl _ => false
theorem fparse_nn {tag b : List Int} {a : Int} (h : fparse tag b = .inl a) : 0 ≤ a := by
  unfold fparse at h
  repeat' split at h
  all_goals first | (cases h; omega) | cases h
set_option maxRecDepth 100000 in
set_option maxHeartbeats 4000000 in
theorem good_c (f : FV) (ht : f.tag.length ≤ 9223372036854775807) (hx : f.text.length ≤ 9223372036854775807) (hs : ∀ s ∈ f.subs, s.2.length ≤ 9223372036854775807) (hn : f.subs.length ≤ 9223372036854775806) (hb : (fbytes f).length ≤ 1099511627776) :
    ACall Try.prog 22 [.agg (fCells f)] (.bool (goodF f)) none := by
  refine acall_intro none Try.func22 rfl (by kernel_rfl) (by simp [Try.f22]) ?_
  have hcl : closedL (subCells f.subs) = true := subCells_closed _
  refine ex_run 30 ?_
  simp (maxSteps := 200000) only [Try.f22, fCells, hcl, push_cast, List.getD_cons_zero, List.getD_cons_succ, List.take_succ_cons, List.take_zero, List.drop_succ_cons, Nat.reduceLT, Nat.reduceLeDiff, Nat.reduceEqDiff, Nat.reduceAdd, Nat.reduceMul, Nat.reduceSub, Int.reduceToNat, Int.reduceLE, Int.reduceLT, Int.reduceEq, Int.reduceAdd, ↓reduceIte, decide_true, decide_false, and_self]
  refine ⟨by kernel_rfl, ?_⟩
  refine call_introF (rbytes_s f ht (by omega)) (fun h => by cases h) ?_
  simp (maxSteps := 200000) only [hcl, push_cast, List.getD_cons_zero, List.getD_cons_succ, List.take_succ_cons, List.take_zero, List.drop_succ_cons, Nat.reduceLT, Nat.reduceLeDiff, Nat.reduceEqDiff, Nat.reduceAdd, Nat.reduceMul, Nat.reduceSub, Int.reduceToNat, Int.reduceLE, Int.reduceLT, Int.reduceEq, Int.reduceAdd, ↓reduceIte, decide_true, decide_false, and_self]
  refine call_introF (rfield_c f.tag (fbytes f) ht (by omega)) (fun h => by cases h) ?_
  unfold goodF
  cases hp : fparse f.tag (fbytes f) with
  | inl a =>
    simp (maxSteps := 200000) only [fres, fCells, zeroF, subCells_nil, u8s_nil, hcl, push_cast, List.getD_cons_zero, List.getD_cons_succ, List.take_succ_cons, List.take_zero, List.drop_succ_cons, Nat.reduceLT, Nat.reduceLeDiff, Nat.reduceEqDiff, Nat.reduceAdd, Nat.reduceMul, Nat.reduceSub, Int.reduceToNat, Int.reduceLE, Int.reduceLT, Int.reduceEq, Int.reduceAdd, ↓reduceIte, decide_true, decide_false, and_self]
    refine ⟨by kernel_rfl, ?_⟩
    exact ⟨_, _, rfl, rfl, .refl _, rfl⟩
  | inr g =>
    have hcg : closedL (subCells g.subs) = true := subCells_closed _
    simp (maxSteps := 200000) only [fres, fCells, hcl, hcg, push_cast, List.getD_cons_zero, List.getD_cons_succ, List.take_succ_cons, List.take_zero, List.drop_succ_cons, Nat.reduceLT, Nat.reduceLeDiff, Nat.reduceEqDiff, Nat.reduceAdd, Nat.reduceMul, Nat.reduceSub, Int.reduceToNat, Int.reduceLE, Int.reduceLT, Int.reduceEq, Int.reduceAdd, ↓reduceIte, decide_true, decide_false, and_self]
    refine ⟨by kernel_rfl, ?_⟩
    refine call_intro (rsame_c f g hx hs hn) (fun h => by cases h) ?_
    simp (maxSteps := 200000) only [push_cast, List.getD_cons_zero, List.getD_cons_succ, List.take_succ_cons, List.take_zero, List.drop_succ_cons, Nat.reduceLT, Nat.reduceLeDiff, Nat.reduceEqDiff, Nat.reduceAdd, Nat.reduceMul, Nat.reduceSub, Int.reduceToNat, Int.reduceLE, Int.reduceLT, Int.reduceEq, Int.reduceAdd, ↓reduceIte, decide_true, decide_false, and_self]
    exact ⟨_, _, rfl, rfl, .refl _, rfl⟩
theorem ansP : fparse [50, 52, 53] [49, 48, 31, 97, 120] = .inr ⟨[50, 52, 53], [], 49, 48, [(97, [120])]⟩ := by rfl
theorem zrep5 (x : AV) : zrep [x] 5 = [x, x, x, x, x] := by simp [zrep, show List.range 5 = [0, 1, 2, 3, 4] from rfl]
theorem b245 : bytesOf ⟨#[50, 52, 53]⟩ = [50, 52, 53] := rfl
theorem FParse_ans : ACall Try.prog 26 [.str [50, 52, 53], .sl 5 [.int .u8 49, .int .u8 48, .int .u8 31, .int .u8 97, .int .u8 120]] (.tup [.agg [.str [50, 52, 53], .sl 0 [], .int .u8 49, .int .u8 48, .sl 1 [.int .u8 97, .sl 1 [.int .u8 120]]], .agg [.int .i64 0, .int .i64 0]]) none := by
  have := FParse_c [50, 52, 53] [49, 48, 31, 97, 120] (by decide) (by decide)
  rw [ansP] at this
  exact this
set_option maxRecDepth 100000 in
set_option maxHeartbeats 4000000 in
theorem answers21_c : ACall Try.prog 24 [] (.bool true) none := by
  refine acall_intro none Try.func24 rfl (by kernel_rfl) (by simp [Try.f24]) ?_
  refine ex_run 3 ?_
  simp (maxSteps := 200000) only [Try.f24, push_cast, List.getD_cons_zero, List.getD_cons_succ, List.take_succ_cons, List.take_zero, List.drop_succ_cons, Nat.reduceLT, Nat.reduceLeDiff, Nat.reduceEqDiff, Nat.reduceAdd, Nat.reduceMul, Nat.reduceSub, Int.reduceToNat, Int.reduceLE, Int.reduceLT, Int.reduceEq, Int.reduceAdd, ↓reduceIte, decide_true, decide_false, and_self]
  refine run_region_cut 2 (by decide) ?_
  simp (maxSteps := 200000) only [List.toList_toArray, push_cast, List.getD_cons_zero, List.getD_cons_succ, List.take_succ_cons, List.take_zero, List.drop_succ_cons, Nat.reduceLT, Nat.reduceLeDiff, Nat.reduceEqDiff, Nat.reduceAdd, Nat.reduceMul, Nat.reduceSub, Int.reduceToNat, Int.reduceLE, Int.reduceLT, Int.reduceEq, Int.reduceAdd, ↓reduceIte, decide_true, decide_false, and_self]
  refine ⟨mkS [(5, .sl 5 [.int .u8 49, .int .u8 48, .int .u8 31, .int .u8 97, .int .u8 120]), (0, .bool false)] [] 11,
    freeze_leU 4 ⟨1, 1, [.int .u8 49, .int .u8 48, .int .u8 31, .int .u8 97, .int .u8 120]⟩ rfl ⟨Frz.own (t := 4) (T := ⟨1, 1, [.int .u8 49, .int .u8 48, .int .u8 31, .int .u8 97, .int .u8 120]⟩) 0 5 (by decide), .keep _, trivial⟩ trivial, rfl, ?_⟩
  simp (maxSteps := 200000) only [List.toList_toArray, b245, push_cast, List.getD_cons_zero, List.getD_cons_succ, List.take_succ_cons, List.take_zero, List.drop_succ_cons, Nat.reduceLT, Nat.reduceLeDiff, Nat.reduceEqDiff, Nat.reduceAdd, Nat.reduceMul, Nat.reduceSub, Int.reduceToNat, Int.reduceLE, Int.reduceLT, Int.reduceEq, Int.reduceAdd, ↓reduceIte, decide_true, decide_false, and_self]
  refine call_intro FParse_ans (fun h => by cases h) ?_
  simp (maxSteps := 200000) only [push_cast, List.getD_cons_zero, List.getD_cons_succ, List.take_succ_cons, List.take_zero, List.drop_succ_cons, Nat.reduceLT, Nat.reduceLeDiff, Nat.reduceEqDiff, Nat.reduceAdd, Nat.reduceMul, Nat.reduceSub, Int.reduceToNat, Int.reduceLE, Int.reduceLT, Int.reduceEq, Int.reduceAdd, ↓reduceIte, decide_true, decide_false, and_self]
  refine ex_run 30 ?_
  simp (maxSteps := 200000) only [push_cast, List.getD_cons_zero, List.getD_cons_succ, List.take_succ_cons, List.take_zero, List.drop_succ_cons, Nat.reduceLT, Nat.reduceLeDiff, Nat.reduceEqDiff, Nat.reduceAdd, Nat.reduceMul, Nat.reduceSub, Int.reduceToNat, Int.reduceLE, Int.reduceLT, Int.reduceEq, Int.reduceAdd, ↓reduceIte, decide_true, decide_false, and_self]
  exact ⟨_, _, rfl, rfl, .refl _, rfl⟩
end Go.Proofs.Ytbkmbiccdhnibaa
