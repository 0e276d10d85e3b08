/- field.Print -/
import Derived.Test.YtbkmbiccdhnibaaFldQ
set_option linter.unusedVariables false
set_option linter.unusedSimpArgs false
namespace Go.Proofs.Ytbkmbiccdhnibaa
open Go Go.Eng
def prR (f : FV) : AV := if goodF f = true then .tup [.sl (fbytes f).length (u8s (fbytes f)), .bool true] else .tup [.sl 0 [], .bool false]
theorem prR_bad {f : FV} {a : Int} (h : fparse f.tag (fbytes f) = .inl a) : prR f = .tup [.sl 0 [], .bool false] := by
  unfold prR goodF
  rw [h, if_neg (by simp)]
theorem FParse_m (tag b : List Int) (n : Nat) (hn : b.length = n) (ht : tag.length ≤ 9223372036854775807) (hl : n ≤ 1099511627776) : ACall Try.prog 26 [.str tag, .sl n (u8s b)] (fres (fparse tag b)) none := by
  subst hn; exact FParse_c tag b ht hl
theorem frz_own (t gt : Nat) (l : List Int) : Frz t ⟨gt, 1, u8s l⟩ (.own t gt 0 l.length) (.sl l.length (u8s l)) := by
  have := Frz.own (t := t) (T := ⟨gt, 1, u8s l⟩) 0 l.length (by simp [u8s])
  have e : ((u8s l).drop 0).take (l.length * 1) = u8s l := List.take_of_length_le (by simp [u8s])
  rw [show ((⟨gt, 1, u8s l⟩ : Tok).cs.drop 0).take (l.length * (⟨gt, 1, u8s l⟩ : Tok).sz) = u8s l from e] at this
  exact this
set_option maxRecDepth 100000 in
set_option maxHeartbeats 8000000 in
theorem Print_c (f : FV) (hF : FB f) (ht : f.tag.length ≤ 9223372036854775807) (hx : f.text.length ≤ 140737488355328) (hb : (fbytes f).length ≤ 1099511627776) (hn : f.subs.length ≤ 1099511627776) :
    ACall Try.prog 30 [.agg (fCells f)] (prR f) none := by
  have hcf : closedL (subCells f.subs) = true := subCells_closed _
  have hng : ∀ {a : Int}, fparse f.tag (fbytes f) = .inl a → prR f = .tup [.sl 0 [], .bool false] := fun h => prR_bad h
  refine acall_intro none Try.func30 rfl (by kernel_rfl) (by simp [Try.f30]) ?_
  refine ex_run 30 ?_
  simp (maxSteps := 200000) only [Try.f30, fCells, hcf, push_cast, List.getD_cons_zero, List.getD_cons_succ, List.take_succ_cons, List.take_zero, List.drop_succ_cons, Nat.reduceLT, Nat.reduceLeDiff, Nat.reduceEqDiff, Nat.reduceAdd, Nat.reduceMul, Nat.reduceSub, Int.reduceToNat, Int.reduceLE, Int.reduceLT, Int.reduceEq, Int.reduceAdd, ↓reduceIte, decide_true, decide_false, and_self]
  refine call_intro (Control_c f.tag ht) (fun h => by cases h) ?_
  cases hc : List.isPrefixOf [48, 48] f.tag with
  | true =>
    have hfb : fbytes f = f.text := by unfold fbytes; rw [if_pos (show ctl f.tag = true from hc)]
    simp (maxSteps := 200000) only [push_cast, List.getD_cons_zero, List.getD_cons_succ, List.take_succ_cons, List.take_zero, List.drop_succ_cons, Nat.reduceLT, Nat.reduceLeDiff, Nat.reduceEqDiff, Nat.reduceAdd, Nat.reduceMul, Nat.reduceSub, Int.reduceToNat, Int.reduceLE, Int.reduceLT, Int.reduceEq, Int.reduceAdd, ↓reduceIte, decide_true, decide_false, and_self]
    refine call_intro (Clone_c f.text hx) (fun h => by cases h) ?_
    simp (maxSteps := 200000) only [push_cast, List.getD_cons_zero, List.getD_cons_succ, List.take_succ_cons, List.take_zero, List.drop_succ_cons, Nat.reduceLT, Nat.reduceLeDiff, Nat.reduceEqDiff, Nat.reduceAdd, Nat.reduceMul, Nat.reduceSub, Int.reduceToNat, Int.reduceLE, Int.reduceLT, Int.reduceEq, Int.reduceAdd, ↓reduceIte, decide_true, decide_false, and_self]
    refine call_intro (FParse_c f.tag f.text ht (by rw [← hfb]; exact hb)) (fun h => by cases h) ?_
    cases hp : fparse f.tag f.text with
    | inl a =>
      simp (maxSteps := 200000) only [fres, fCells, zeroF, subCells_nil, u8s_nil, hcf, push_cast, List.getD_cons_zero, List.getD_cons_succ, List.take_succ_cons, List.take_zero, List.drop_succ_cons, Nat.reduceLT, Nat.reduceLeDiff, Nat.reduceEqDiff, Nat.reduceAdd, Nat.reduceMul, Nat.reduceSub, Int.reduceToNat, Int.reduceLE, Int.reduceLT, Int.reduceEq, Int.reduceAdd, ↓reduceIte, decide_true, decide_false, and_self]
      rw [hng (by rw [hfb, hp])]
      exact ⟨[.nilS, .bool false], [.nilS, .bool false], by kernel_rfl, by simp [outA, outV, outC, AV.closed], sub_tup ⟨.nil, .refl _, trivial⟩, rfl⟩
    | inr g =>
      have hcg : closedL (subCells g.subs) = true := subCells_closed _
      have hFg : FB g := fparse_FB hp hF.text
      simp (maxSteps := 200000) only [fres, fCells, hcf, hcg, push_cast, List.getD_cons_zero, List.getD_cons_succ, List.take_succ_cons, List.take_zero, List.drop_succ_cons, Nat.reduceLT, Nat.reduceLeDiff, Nat.reduceEqDiff, Nat.reduceAdd, Nat.reduceMul, Nat.reduceSub, Int.reduceToNat, Int.reduceLE, Int.reduceLT, Int.reduceEq, Int.reduceAdd, ↓reduceIte, decide_true, decide_false, and_self]
      refine call_intro (psame_c f g hF hFg (by omega)) (fun h => by cases h) ?_
      have hge : goodF f = sameB f g := by unfold goodF; rw [hfb, hp]
      cases hs : sameB f g with
      | false =>
        simp (maxSteps := 200000) only [push_cast, List.getD_cons_zero, List.getD_cons_succ, List.take_succ_cons, List.take_zero, List.drop_succ_cons, Nat.reduceLT, Nat.reduceLeDiff, Nat.reduceEqDiff, Nat.reduceAdd, Nat.reduceMul, Nat.reduceSub, Int.reduceToNat, Int.reduceLE, Int.reduceLT, Int.reduceEq, Int.reduceAdd, ↓reduceIte, decide_true, decide_false, and_self]
        unfold prR
        rw [hge, hs, if_neg (by simp)]
        exact ⟨[.nilS, .bool false], [.nilS, .bool false], by kernel_rfl, by simp [outA, outV, outC, AV.closed], sub_tup ⟨.nil, .refl _, trivial⟩, rfl⟩
      | true =>
        simp (maxSteps := 200000) only [push_cast, List.getD_cons_zero, List.getD_cons_succ, List.take_succ_cons, List.take_zero, List.drop_succ_cons, Nat.reduceLT, Nat.reduceLeDiff, Nat.reduceEqDiff, Nat.reduceAdd, Nat.reduceMul, Nat.reduceSub, Int.reduceToNat, Int.reduceLE, Int.reduceLT, Int.reduceEq, Int.reduceAdd, ↓reduceIte, decide_true, decide_false, and_self]
        unfold prR
        rw [hge, hs, if_pos rfl, hfb]
        exact ⟨[.sl (f.text).length (u8s (f.text)), .bool true], [.sl (f.text).length (u8s (f.text)), .bool true], by kernel_rfl, by simp [outA, outV, outC, AV.closed, u8s_closed], .refl _, rfl⟩
  | false =>
    have hfb : fbytes f = f.i0 :: f.i1 :: f.subs.flatMap subB := by unfold fbytes; rw [if_neg (by show ¬ ctl f.tag = true; unfold ctl; rw [hc]; simp)]
    simp (maxSteps := 200000) only [hcf, push_cast, List.getD_cons_zero, List.getD_cons_succ, List.take_succ_cons, List.take_zero, List.drop_succ_cons, Nat.reduceLT, Nat.reduceLeDiff, Nat.reduceEqDiff, Nat.reduceAdd, Nat.reduceMul, Nat.reduceSub, Int.reduceToNat, Int.reduceLE, Int.reduceLT, Int.reduceEq, Int.reduceAdd, ↓reduceIte, decide_true, decide_false, and_self]
    have hbl : (f.subs.flatMap subB).length + 2 ≤ 1099511627776 := by rw [hfb] at hb; simpa using hb
    have hcnt := flat_cnt f.subs
    refine run_keep (l' := [(20, .int .i64 0), (19, .int .i64 f.subs.length), (18, .sl f.subs.length (subCells f.subs)), (4, .arr 1 0 2 2), (1, .addr 1 0 0)]) (t' := [(1, ⟨0, 1, fCells f⟩)]) (nx' := _) ⟨.refl _, .refl _, .refl _, .refl _, .refl _, trivial⟩ ⟨⟨_, rfl, rfl, rfl, SubL.refl _⟩, trivial⟩ (Nat.le_refl _) ?_
    refine run_loop (fun n s => ∃ (i g nx : Nat), i ≤ f.subs.length ∧ n = f.subs.length - i ∧
      ((i = 0 ∧ s = mkS [(20, .int .i64 i), (19, .int .i64 f.subs.length), (18, .sl f.subs.length (subCells f.subs)), (4, .arr 1 0 2 2), (1, .addr 1 0 0)] [(1, ⟨0, 1, fCells f⟩)] nx) ∨
       (0 < i ∧ s = mkS [(20, .int .i64 i), (19, .int .i64 f.subs.length), (18, .sl f.subs.length (subCells f.subs)), (4, .own 28 g 0 (outB f i).length), (1, .addr 1 0 0)] [(28, ⟨g, 1, u8s (outB f i)⟩), (1, ⟨0, 1, fCells f⟩)] nx))) _ ⟨0, 0, _, Nat.zero_le _, rfl, .inl ⟨rfl, rfl⟩⟩ ?_
    rintro n s ⟨i, g, nx, hi, rfl, hs⟩
    by_cases h : i < f.subs.length
    · have r0 := subCells_row f.subs i h
      have hsl := subCells_length f.subs
      have hpos : 0 < f.subs.length * 2 := by omega
      have l0 : i * 2 + 2 ≤ f.subs.length * 2 := by omega
      have hw : IntKind.i64.wrap ((i : Int) + 1) = ((i + 1 : Nat) : Int) := by rw [wrap_i64 (by omega)]; omega
      have hos := outB_succ f i h
      have hle := flat_le f.subs (i + 1)
      have hol : (outB f (i + 1)).length = ((f.subs.take (i + 1)).flatMap subB).length + 2 := by simp [outB]
      have hol2 := congrArg List.length hos
      simp only [List.length_append, List.length_cons] at hol2
      generalize f.subs[i] = q at *
      obtain ⟨c, tx⟩ := q
      simp only [sCells] at r0
      simp only at hos hol2
      have hcx : closedL (u8s tx) = true := u8s_closed tx
      obtain ⟨rfl, rfl⟩ | ⟨hp, rfl⟩ := hs
      · have r00 : (subCells f.subs).take 2 = [AV.int IntKind.u8 c, AV.sl tx.length (u8s tx)] := by simpa using r0
        have hI : (0 : Int) < (f.subs.length : Int) := by omega
        have l00 : 2 ≤ f.subs.length * 2 := by omega
        have hw0 : IntKind.i64.wrap (1 : Int) = 1 := by kernel_rfl
        refine ex_run 40 ?_
        simp (maxSteps := 200000) only [fCells, h, hI, r00, hsl, hpos, l00, hcx, hw0, push_cast, List.getD_cons_zero, List.getD_cons_succ, List.take_succ_cons, List.take_zero, List.drop_succ_cons, Nat.reduceLT, Nat.reduceLeDiff, Nat.reduceEqDiff, Nat.reduceAdd, Nat.reduceMul, Nat.reduceSub, Int.reduceToNat, Int.reduceLE, Int.reduceLT, Int.reduceEq, Int.reduceAdd, ↓reduceIte, decide_true, decide_false, and_self]
        refine ⟨by kernel_rfl, ⟨by omega, by omega⟩, okTr_of (by kernel_rfl), ?_⟩
        have hoc : AV.int .u8 f.i0 :: AV.int .u8 f.i1 :: AV.int .u8 31 :: AV.int .u8 c :: u8s tx = u8s (outB f 1) := by rw [hos]; rfl
        have hol3 : 4 + tx.length = (outB f 1).length := by rw [hos]; simp [outB]; omega
        rw [hoc, hol3]
        refine run_back_le (le_mk (l' := [(20, .int .i64 ((0 + 1 : Nat) : Int)), (19, .int .i64 f.subs.length), (18, .sl f.subs.length (subCells f.subs)), (4, .own 28 _ 0 (outB f 1).length), (1, .addr 1 0 0)]) (t' := [(28, ⟨_, 1, u8s (outB f 1)⟩), (1, ⟨0, 1, fCells f⟩)]) (nx' := _)
          ⟨.refl _, .refl _, .refl _, .refl _, .refl _, trivial⟩ ⟨⟨_, rfl, rfl, rfl, SubL.refl _⟩, ⟨_, rfl, rfl, rfl, SubL.refl _⟩, trivial⟩ (Nat.le_refl _)) ?_
        exact ⟨f.subs.length - (0 + 1), by omega, 0 + 1, _, _, by omega, rfl, .inr ⟨by omega, rfl⟩⟩
      · refine ex_run 40 ?_
        simp (maxSteps := 200000) only [fCells, h, r0, hsl, hpos, l0, hcx, hw, push_cast, List.getD_cons_zero, List.getD_cons_succ, List.take_succ_cons, List.take_zero, List.drop_succ_cons, Nat.reduceLT, Nat.reduceLeDiff, Nat.reduceEqDiff, Nat.reduceAdd, Nat.reduceMul, Nat.reduceSub, Int.reduceToNat, Int.reduceLE, Int.reduceLT, Int.reduceEq, Int.reduceAdd, ↓reduceIte, decide_true, decide_false, and_self]
        refine ⟨by kernel_rfl, ⟨by omega, by omega⟩, ⟨by simp [u8s], by omega, by omega⟩, okTr_of (by kernel_rfl), ?_⟩
        have hoc : u8s (outB f i) ++ [.int .u8 31, .int .u8 c] ++ u8s tx = u8s (outB f (i + 1)) := by rw [hos]; simp [u8s]
        have hol3 : (outB f i).length + 2 + tx.length = (outB f (i + 1)).length := by omega
        rw [hoc, hol3]
        refine run_back_le (le_mk (l' := [(20, .int .i64 ((i + 1 : Nat) : Int)), (19, .int .i64 f.subs.length), (18, .sl f.subs.length (subCells f.subs)), (4, .own 28 _ 0 (outB f (i + 1)).length), (1, .addr 1 0 0)]) (t' := [(28, ⟨_, 1, u8s (outB f (i + 1))⟩), (1, ⟨0, 1, fCells f⟩)]) (nx' := _)
          ⟨.of_eq (congrArg (AV.int .i64) (by omega)), .refl _, .refl _, .refl _, .refl _, trivial⟩ ⟨⟨_, rfl, rfl, rfl, SubL.refl _⟩, ⟨_, rfl, rfl, rfl, SubL.refl _⟩, trivial⟩ (Nat.le_refl _)) ?_
        exact ⟨f.subs.length - (i + 1), by omega, i + 1, _, _, by omega, rfl, .inr ⟨by omega, rfl⟩⟩
    · have hie : i = f.subs.length := by omega
      obtain ⟨rfl, rfl⟩ | ⟨hp, rfl⟩ := hs
      · have h' : ¬ (0 : Int) < (f.subs.length : Int) := by omega
        have h0 : f.subs = [] := List.eq_nil_of_length_eq_zero (by omega)
        refine ex_run 40 ?_
        simp (maxSteps := 200000) only [fCells, h', push_cast, List.getD_cons_zero, List.getD_cons_succ, List.take_succ_cons, List.take_zero, List.drop_succ_cons, Nat.reduceLT, Nat.reduceLeDiff, Nat.reduceEqDiff, Nat.reduceAdd, Nat.reduceMul, Nat.reduceSub, Int.reduceToNat, Int.reduceLE, Int.reduceLT, Int.reduceEq, Int.reduceAdd, ↓reduceIte, decide_true, decide_false, and_self]
        obtain ⟨a, ha⟩ := fparse_two (tag := f.tag) (x := f.i0) (y := f.i1) hc
        have hP := FParse_c f.tag [f.i0, f.i1] ht (by simp)
        rw [ha] at hP
        rw [hng (a := a) (by rw [hfb, h0]; exact ha)]
        refine call_intro hP (fun h => ⟨rfl, fun _ e => by cases e⟩) ?_
        simp (maxSteps := 200000) only [fres, fCells, zeroF, subCells_nil, u8s_nil, hcf, push_cast, List.getD_cons_zero, List.getD_cons_succ, List.take_succ_cons, List.take_zero, List.drop_succ_cons, Nat.reduceLT, Nat.reduceLeDiff, Nat.reduceEqDiff, Nat.reduceAdd, Nat.reduceMul, Nat.reduceSub, Int.reduceToNat, Int.reduceLE, Int.reduceLT, Int.reduceEq, Int.reduceAdd, ↓reduceIte, decide_true, decide_false, and_self]
        exact ⟨[.nilS, .bool false], [.nilS, .bool false], by kernel_rfl, by simp [outA, outV, outC, AV.closed], sub_tup ⟨.nil, .refl _, trivial⟩, rfl⟩
      · refine ex_run 4 ?_
        simp (maxSteps := 200000) only [fCells, h, push_cast, List.getD_cons_zero, List.getD_cons_succ, List.take_succ_cons, List.take_zero, List.drop_succ_cons, Nat.reduceLT, Nat.reduceLeDiff, Nat.reduceEqDiff, Nat.reduceAdd, Nat.reduceMul, Nat.reduceSub, Int.reduceToNat, Int.reduceLE, Int.reduceLT, Int.reduceEq, Int.reduceAdd, ↓reduceIte, decide_true, decide_false, and_self]
        have hob : outB f i = fbytes f := by rw [hfb, hie]; unfold outB; rw [List.take_length]
        rw [hob]
        refine Go.Eng.run_freeze (l' := [(4, .sl (fbytes f).length (u8s (fbytes f))), (1, .addr 1 0 0)]) (tl' := [(1, ⟨0, 1, fCells f⟩)]) 28 ⟨g, 1, u8s (fbytes f)⟩ rfl ⟨frz_own _ _ _, .keep _, trivial⟩ ⟨by decide, ⟨_, rfl, rfl, rfl, FrzL.refl _⟩, trivial⟩ ?_
        refine ex_run 40 ?_
        simp (maxSteps := 200000) only [fCells, push_cast, List.getD_cons_zero, List.getD_cons_succ, List.take_succ_cons, List.take_zero, List.drop_succ_cons, Nat.reduceLT, Nat.reduceLeDiff, Nat.reduceEqDiff, Nat.reduceAdd, Nat.reduceMul, Nat.reduceSub, Int.reduceToNat, Int.reduceLE, Int.reduceLT, Int.reduceEq, Int.reduceAdd, ↓reduceIte, decide_true, decide_false, and_self]
        refine call_intro (FParse_c f.tag (fbytes f) ht hb) (fun h => by cases h) ?_
        cases hp : fparse f.tag (fbytes f) with
        | inl a =>
          simp (maxSteps := 200000) only [fres, fCells, zeroF, subCells_nil, u8s_nil, hcf, push_cast, List.getD_cons_zero, List.getD_cons_succ, List.take_succ_cons, List.take_zero, List.drop_succ_cons, Nat.reduceLT, Nat.reduceLeDiff, Nat.reduceEqDiff, Nat.reduceAdd, Nat.reduceMul, Nat.reduceSub, Int.reduceToNat, Int.reduceLE, Int.reduceLT, Int.reduceEq, Int.reduceAdd, ↓reduceIte, decide_true, decide_false, and_self]
          rw [hng hp]
          exact ⟨[.nilS, .bool false], [.nilS, .bool false], by kernel_rfl, by simp [outA, outV, outC, AV.closed], sub_tup ⟨.nil, .refl _, trivial⟩, rfl⟩
        | inr g =>
          have hcg : closedL (subCells g.subs) = true := subCells_closed _
          have hFg : FB g := fparse_FB hp (fbytes_inB hF hp)
          simp (maxSteps := 200000) only [fres, fCells, hcf, hcg, push_cast, List.getD_cons_zero, List.getD_cons_succ, List.take_succ_cons, List.take_zero, List.drop_succ_cons, Nat.reduceLT, Nat.reduceLeDiff, Nat.reduceEqDiff, Nat.reduceAdd, Nat.reduceMul, Nat.reduceSub, Int.reduceToNat, Int.reduceLE, Int.reduceLT, Int.reduceEq, Int.reduceAdd, ↓reduceIte, decide_true, decide_false, and_self]
          refine call_intro (psame_c f g hF hFg (by omega)) (fun h => by cases h) ?_
          have hge : goodF f = sameB f g := by unfold goodF; rw [hp]
          cases hs : sameB f g with
          | false =>
            simp (maxSteps := 200000) only [push_cast, List.getD_cons_zero, List.getD_cons_succ, List.take_succ_cons, List.take_zero, List.drop_succ_cons, Nat.reduceLT, Nat.reduceLeDiff, Nat.reduceEqDiff, Nat.reduceAdd, Nat.reduceMul, Nat.reduceSub, Int.reduceToNat, Int.reduceLE, Int.reduceLT, Int.reduceEq, Int.reduceAdd, ↓reduceIte, decide_true, decide_false, and_self]
            unfold prR
            rw [hge, hs, if_neg (by simp)]
            exact ⟨[.nilS, .bool false], [.nilS, .bool false], by kernel_rfl, by simp [outA, outV, outC, AV.closed], sub_tup ⟨.nil, .refl _, trivial⟩, rfl⟩
          | true =>
            simp (maxSteps := 200000) only [push_cast, List.getD_cons_zero, List.getD_cons_succ, List.take_succ_cons, List.take_zero, List.drop_succ_cons, Nat.reduceLT, Nat.reduceLeDiff, Nat.reduceEqDiff, Nat.reduceAdd, Nat.reduceMul, Nat.reduceSub, Int.reduceToNat, Int.reduceLE, Int.reduceLT, Int.reduceEq, Int.reduceAdd, ↓reduceIte, decide_true, decide_false, and_self]
            unfold prR
            rw [hge, hs, if_pos rfl]
            exact ⟨[.sl ((fbytes f)).length (u8s ((fbytes f))), .bool true], [.sl ((fbytes f)).length (u8s ((fbytes f))), .bool true], by kernel_rfl, by simp [outA, outV, outC, AV.closed, u8s_closed], .refl _, rfl⟩
end Go.Proofs.Ytbkmbiccdhnibaa
