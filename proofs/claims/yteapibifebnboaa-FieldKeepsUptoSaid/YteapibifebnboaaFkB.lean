/- field.Texts: what it answers are rows of the caller's own. -/
import Derived.Test.YteapibifebnboaaFkA
set_option linter.unusedVariables false
set_option linter.unusedSimpArgs false
namespace Go.Proofs.Yteapibifebnboaa
open Go Go.Eng
def txQ (n : Nat) (r : AV) (tl' : List (Nat × Tok)) : Prop := ∃ g cs R, r = .own 1000 g 0 n ∧ tl' = (1000, ⟨g, 1, cs⟩) :: R ∧ TxOk cs R n
theorem one_ref {p : Nat → Bool} {d : Nat} {T0 : Tok} (h : closedL T0.cs = true) : ∀ t T, lkT [(d, T0)] t = some T → refOkL p T.cs = true := by
  intro t T e
  rw [lkT_cons] at e
  split at e
  · cases e; exact closedL_refOk _ _ h
  · cases e
theorem lkT_one {d t : Nat} {T0 T : Tok} (h : lkT [(d, T0)] t = some T) : t = d ∧ T = T0 := by
  rw [lkT_cons] at h
  split at h
  · rename_i e; cases h; exact ⟨e, rfl⟩
  · cases h
set_option maxRecDepth 100000 in
set_option maxHeartbeats 4000000 in
theorem Texts_s (f : FV) (ht : f.tag.length ≤ 9223372036854775807) (hx : f.text.length ≤ 140737488355328) (hs : ∀ s ∈ f.subs, s.2.length ≤ 140737488355328) (hn : f.subs.length ≤ 1099511627776) (nx0 : Nat) :
    SCall Try.prog 31 [.agg (fCells f)] [] nx0 fun r tl' nx' => txQ (textsOf f).length r tl' := by
  have hcf : closedL (subCells f.subs) = true := subCells_closed _
  refine scall_intro Try.func31 rfl (by kernel_rfl) (by simp [Try.f31]) ?_
  refine ex_run 5 ?_
  simp (maxSteps := 200000) only [Try.f31, fCells, hcf, push_cast, List.getD_cons_zero, List.getD_cons_succ, List.take_succ_cons, List.take_zero, List.drop_succ_cons, Nat.reduceLT, Nat.reduceLeDiff, Nat.reduceEqDiff, Nat.reduceAdd, Nat.reduceMul, Nat.reduceSub, Int.reduceToNat, Int.reduceLE, Int.reduceLT, Int.reduceEq, Int.reduceAdd, ↓reduceIte, decide_true, decide_false, and_self]
  refine call_intro (Control_c f.tag ht) (fun h => by cases h) ?_
  cases hc : List.isPrefixOf [48, 48] f.tag with
  | true =>
    have hT : textsOf f = [f.text] := by unfold textsOf; rw [if_pos (show ctl f.tag = true from hc)]
    rw [hT]
    simp (maxSteps := 200000) only [push_cast, List.getD_cons_zero, List.getD_cons_succ, List.take_succ_cons, List.take_zero, List.drop_succ_cons, Nat.reduceLT, Nat.reduceLeDiff, Nat.reduceEqDiff, Nat.reduceAdd, Nat.reduceMul, Nat.reduceSub, Int.reduceToNat, Int.reduceLE, Int.reduceLT, Int.reduceEq, Int.reduceAdd, ↓reduceIte, decide_true, decide_false, and_self]
    by_cases h0 : f.text = []
    · refine ex_run 3 ?_
      simp (maxSteps := 200000) only [h0, u8s_nil, List.length_nil, push_cast, List.getD_cons_zero, List.getD_cons_succ, List.take_succ_cons, List.take_zero, List.drop_succ_cons, Nat.reduceLT, Nat.reduceLeDiff, Nat.reduceEqDiff, Nat.reduceAdd, Nat.reduceMul, Nat.reduceSub, Int.reduceToNat, Int.reduceLE, Int.reduceLT, Int.reduceEq, Int.reduceAdd, ↓reduceIte, decide_true, decide_false, and_self]
      refine call_intro (Clone_c [] (by decide)) (fun h => by cases h) ?_
      simp (maxSteps := 200000) only [push_cast, List.getD_cons_zero, List.getD_cons_succ, List.take_succ_cons, List.take_zero, List.drop_succ_cons, Nat.reduceLT, Nat.reduceLeDiff, Nat.reduceEqDiff, Nat.reduceAdd, Nat.reduceMul, Nat.reduceSub, Int.reduceToNat, Int.reduceLE, Int.reduceLT, Int.reduceEq, Int.reduceAdd, ↓reduceIte, decide_true, decide_false, and_self]
      refine run_out1 12 1000 2 0 1 _ rfl (by omega) rfl fun g nx' => ?_
      refine ex_run 3 ?_
      simp (maxSteps := 200000) only [push_cast, List.getD_cons_zero, List.getD_cons_succ, List.take_succ_cons, List.take_zero, List.drop_succ_cons, Nat.reduceLT, Nat.reduceLeDiff, Nat.reduceEqDiff, Nat.reduceAdd, Nat.reduceMul, Nat.reduceSub, Int.reduceToNat, Int.reduceLE, Int.reduceLT, Int.reduceEq, Int.reduceAdd, ↓reduceIte, decide_true, decide_false, and_self]
      exact ⟨_, _, _, [.own 1000 g 0 1], rfl, rfl, g, [.sl 0 []], [], rfl, rfl, TxOk.nil.empty⟩
    · refine ex_run 2 ?_
      simp (maxSteps := 200000) only [push_cast, List.getD_cons_zero, List.getD_cons_succ, List.take_succ_cons, List.take_zero, List.drop_succ_cons, Nat.reduceLT, Nat.reduceLeDiff, Nat.reduceEqDiff, Nat.reduceAdd, Nat.reduceMul, Nat.reduceSub, Int.reduceToNat, Int.reduceLE, Int.reduceLT, Int.reduceEq, Int.reduceAdd, ↓reduceIte, decide_true, decide_false, and_self]
      refine run_region_scall 2 _ rfl ?_
      simp (maxSteps := 200000) only [List.toList_toArray, push_cast, List.getD_cons_zero, List.getD_cons_succ, List.take_succ_cons, List.take_zero, List.drop_succ_cons, Nat.reduceLT, Nat.reduceLeDiff, Nat.reduceEqDiff, Nat.reduceAdd, Nat.reduceMul, Nat.reduceSub, Int.reduceToNat, Int.reduceLE, Int.reduceLT, Int.reduceEq, Int.reduceAdd, ↓reduceIte, decide_true, decide_false, and_self]
      refine ⟨_, _, [], _, 11, _, rfl, rfl, callAt0 rfl rfl rfl (by decide) rfl rfl (Clone_s f.text h0 hx 1001 _ (by decide)), ?_⟩
      rintro r tl' nx' ⟨g, rfl, rfl⟩ hge
      refine ⟨⟨rfl, one_ref (u8s_closed _)⟩, ?_⟩
      simp (maxSteps := 200000) only [List.toList_toArray, push_cast, List.getD_cons_zero, List.getD_cons_succ, List.take_succ_cons, List.take_zero, List.drop_succ_cons, Nat.reduceLT, Nat.reduceLeDiff, Nat.reduceEqDiff, Nat.reduceAdd, Nat.reduceMul, Nat.reduceSub, Int.reduceToNat, Int.reduceLE, Int.reduceLT, Int.reduceEq, Int.reduceAdd, ↓reduceIte, decide_true, decide_false, and_self]
      refine run_outR [(1001, ⟨g, 1, u8s f.text⟩)] 12 1000 2 0 1 _ rfl (by omega) rfl (fun j T' e _ => ?_) fun g2 nx2 => ?_
      · obtain ⟨e1, e2⟩ := lkT_one e
        subst e1; subst e2
        exact ⟨by decide, rfl⟩
      · refine ex_run 3 ?_
        simp (maxSteps := 200000) only [push_cast, List.getD_cons_zero, List.getD_cons_succ, List.take_succ_cons, List.take_zero, List.drop_succ_cons, Nat.reduceLT, Nat.reduceLeDiff, Nat.reduceEqDiff, Nat.reduceAdd, Nat.reduceMul, Nat.reduceSub, Int.reduceToNat, Int.reduceLE, Int.reduceLT, Int.reduceEq, Int.reduceAdd, ↓reduceIte, decide_true, decide_false, and_self]
        exact ⟨_, _, _, [.own 1000 g2 0 1], rfl, rfl, g2, [.own 1001 g 0 f.text.length], [(1001, ⟨g, 1, u8s f.text⟩)], rfl, rfl, TxOk.nil.full h0 hx⟩
  | false =>
    have hT : textsOf f = f.subs.map (·.2) := by unfold textsOf; rw [if_neg (by show ¬ ctl f.tag = true; unfold ctl; rw [hc]; simp)]
    refine ex_run 8 ?_
    simp (maxSteps := 200000) only [hcf, push_cast, List.getD_cons_zero, List.getD_cons_succ, List.take_succ_cons, List.take_zero, List.drop_succ_cons, Nat.reduceLT, Nat.reduceLeDiff, Nat.reduceEqDiff, Nat.reduceAdd, Nat.reduceMul, Nat.reduceSub, Int.reduceToNat, Int.reduceLE, Int.reduceLT, Int.reduceEq, Int.reduceAdd, ↓reduceIte, decide_true, decide_false, and_self]
    refine run_lazy 3 1000 1 rfl ?_
    refine run_keep (l' := [(16, .int .i64 0), (15, .int .i64 f.subs.length), (14, .sl f.subs.length (subCells f.subs)), (3, .own 1000 _ 0 0)]) (t' := [(1000, ⟨_, 1, []⟩)]) (nx' := _) ⟨.refl _, .refl _, .refl _, .refl _, trivial⟩ ⟨⟨_, rfl, rfl, rfl, SubL.refl _⟩, trivial⟩ (Nat.le_refl _) ?_
    refine run_loop (fun n s => ∃ (i g nx : Nat) (cs : List AV) (R : List (Nat × Tok)), i ≤ f.subs.length ∧ n = f.subs.length - i ∧ TxOk cs R i ∧ s = mkS [(16, .int .i64 i), (15, .int .i64 f.subs.length), (14, .sl f.subs.length (subCells f.subs)), (3, .own 1000 g 0 i)] ((1000, ⟨g, 1, cs⟩) :: R) nx) _ ⟨0, _, _, [], [], Nat.zero_le _, rfl, TxOk.nil, rfl⟩ ?_
    rintro n s ⟨i, g, nx, cs, R, hi, rfl, hok, rfl⟩
    have hcl : cs.length = i := hok.len
    by_cases h : i < f.subs.length
    · have r0 := subCells_row f.subs i h
      have hsl := subCells_length f.subs
      have hpos : 0 < f.subs.length * 2 := by omega
      have l0 : i * 2 + 2 ≤ f.subs.length * 2 := by omega
      have hw : IntKind.i64.wrap ((i : Int) + 1) = ((i + 1 : Nat) : Int) := by rw [wrap_i64 (by omega)]; omega
      have hlen := hs _ (List.getElem_mem h)
      generalize f.subs[i] = q at *
      obtain ⟨c, tx⟩ := q
      simp only [sCells] at r0
      simp only at hlen
      have hcx : closedL (u8s tx) = true := u8s_closed tx
      have hR24 : lkT R 24 = none := hok.none_ (by omega)
      by_cases h0 : tx = []
      · subst h0
        refine ex_run 40 ?_
        simp (maxSteps := 200000) only [h, r0, hsl, hpos, l0, hcx, u8s_nil, List.length_nil, push_cast, List.getD_cons_zero, List.getD_cons_succ, List.take_succ_cons, List.take_zero, List.drop_succ_cons, Nat.reduceLT, Nat.reduceLeDiff, Nat.reduceEqDiff, Nat.reduceAdd, Nat.reduceMul, Nat.reduceSub, Int.reduceToNat, Int.reduceLE, Int.reduceLT, Int.reduceEq, Int.reduceAdd, ↓reduceIte, decide_true, decide_false, and_self]
        refine call_intro (Clone_c [] (by decide)) (fun h => by cases h) ?_
        simp (maxSteps := 200000) only [hw, hcl, push_cast, List.getD_cons_zero, List.getD_cons_succ, List.take_succ_cons, List.take_zero, List.drop_succ_cons, Nat.reduceLT, Nat.reduceLeDiff, Nat.reduceEqDiff, Nat.reduceAdd, Nat.reduceMul, Nat.reduceSub, Int.reduceToNat, Int.reduceLE, Int.reduceLT, Int.reduceEq, Int.reduceAdd, ↓reduceIte, decide_true, decide_false, and_self]
        refine ⟨⟨by omega, by omega⟩, ?_⟩
        generalize nx + 1 + 4 + 1 + 1 + 1 + 1 + 1 = g2
        refine run_keepF (l' := [(16, .int .i64 ((i + 1 : Nat) : Int)), (15, .int .i64 f.subs.length), (14, .sl f.subs.length (subCells f.subs)), (3, .own 1000 g2 0 (i + 1))]) (tl' := (1000, ⟨g2, 1, cs ++ [.sl 0 []]⟩) :: R) (nx' := _)
          ⟨.of_eq (congrArg (AV.int .i64) (by omega)), .refl _, .refl _, .refl _, trivial⟩ (fun j T' e => ?_) (Nat.le_refl _) (run_back ?_)
        · refine ⟨T', ?_, rfl, rfl, SubL.refl _⟩
          rw [lkT_cons] at e ⊢
          by_cases hj : j = 1000
          · rw [if_pos hj] at e ⊢; exact e
          · rw [if_neg hj] at e ⊢
            have := hok.row j T' e
            rw [lkT_cons, if_neg (by omega), lkT_cons, if_neg (by omega), lkT_cons, if_neg (by omega), lkT_cons, if_neg (by omega)]
            exact e
        · exact ⟨f.subs.length - (i + 1), by omega, i + 1, g2, _, _, R, by omega, rfl, hok.empty, rfl⟩
      · refine ex_run 9 ?_
        simp (maxSteps := 200000) only [h, r0, hsl, hpos, l0, hcx, push_cast, List.getD_cons_zero, List.getD_cons_succ, List.take_succ_cons, List.take_zero, List.drop_succ_cons, Nat.reduceLT, Nat.reduceLeDiff, Nat.reduceEqDiff, Nat.reduceAdd, Nat.reduceMul, Nat.reduceSub, Int.reduceToNat, Int.reduceLE, Int.reduceLT, Int.reduceEq, Int.reduceAdd, ↓reduceIte, decide_true, decide_false, and_self]
        refine run_region_scall 3 _ rfl ?_
        simp (maxSteps := 200000) only [List.toList_toArray, push_cast, List.getD_cons_zero, List.getD_cons_succ, List.take_succ_cons, List.take_zero, List.drop_succ_cons, Nat.reduceLT, Nat.reduceLeDiff, Nat.reduceEqDiff, Nat.reduceAdd, Nat.reduceMul, Nat.reduceSub, Int.reduceToNat, Int.reduceLE, Int.reduceLT, Int.reduceEq, Int.reduceAdd, ↓reduceIte, decide_true, decide_false, and_self]
        refine ⟨_, _, [], _, 23, _, rfl, rfl, callAt0 rfl rfl rfl (by decide) rfl rfl (Clone_s tx h0 hlen (1001 + i) _ (by omega)), ?_⟩
        rintro r tl' nx' ⟨gd, rfl, rfl⟩ hge
        have hRi : lkT R (1001 + i) = none := hok.none_ (by omega)
        have hfree : ∀ {T1 T2 T3 : Tok}, (lkT ((5, T1) :: (5, T2) :: (1000, T3) :: R) (1001 + i)).isNone = true := by
          intro T1 T2 T3
          rw [lkT_cons, if_neg (by omega), lkT_cons, if_neg (by omega), lkT_cons, if_neg (by omega), hRi]; rfl
        refine ⟨⟨hfree, one_ref (u8s_closed _)⟩, ?_⟩
        have e1 : (1000 = 1001 + i) = False := by simp; omega
        have e2 : (24 = 1001 + i) = False := by simp; omega
        simp (maxSteps := 200000) only [List.toList_toArray, ↓lkG_cons, e1, e2, hR24, hcl, hw, push_cast, List.getD_cons_zero, List.getD_cons_succ, List.take_succ_cons, List.take_zero, List.drop_succ_cons, Nat.reduceLT, Nat.reduceLeDiff, Nat.reduceEqDiff, Nat.reduceAdd, Nat.reduceMul, Nat.reduceSub, Int.reduceToNat, Int.reduceLE, Int.reduceLT, Int.reduceEq, Int.reduceAdd, ↓reduceIte, decide_true, decide_false, and_self]
        refine ⟨⟨by omega, by omega⟩, ?_⟩
        refine ex_run 30 ?_
        simp (maxSteps := 200000) only [hw, push_cast, List.getD_cons_zero, List.getD_cons_succ, List.take_succ_cons, List.take_zero, List.drop_succ_cons, Nat.reduceLT, Nat.reduceLeDiff, Nat.reduceEqDiff, Nat.reduceAdd, Nat.reduceMul, Nat.reduceSub, Int.reduceToNat, Int.reduceLE, Int.reduceLT, Int.reduceEq, Int.reduceAdd, ↓reduceIte, decide_true, decide_false, and_self]
        generalize nx' + 1 = g2
        refine run_keepF (l' := [(16, .int .i64 ((i + 1 : Nat) : Int)), (15, .int .i64 f.subs.length), (14, .sl f.subs.length (subCells f.subs)), (3, .own 1000 g2 0 (i + 1))]) (tl' := (1000, ⟨g2, 1, cs ++ [.own (1001 + i) gd 0 tx.length]⟩) :: (1001 + i, ⟨gd, 1, u8s tx⟩) :: R) (nx' := _)
          ⟨.of_eq (congrArg (AV.int .i64) (by omega)), .refl _, .refl _, .refl _, trivial⟩ (fun j T' e => ?_) (Nat.le_refl _) (run_back ?_)
        · refine ⟨T', ?_, rfl, rfl, SubL.refl _⟩
          rw [lkT_cons] at e ⊢
          by_cases hj : j = 1000
          · rw [if_pos hj] at e ⊢; exact e
          · rw [if_neg hj] at e ⊢
            rw [lkT_cons] at e
            by_cases hj2 : j = 1001 + i
            · rw [if_pos hj2] at e
              rw [lkT_cons, if_neg (by omega), lkT_cons, if_pos hj2]; exact e
            · rw [if_neg hj2] at e
              have := hok.row j T' e
              rw [lkT_cons, if_neg (by omega), lkT_cons, if_neg hj2, lkT_cons, if_neg (by omega), lkT_cons, if_neg (by omega), lkT_cons, if_neg (by omega)]
              exact e
        · exact ⟨f.subs.length - (i + 1), by omega, i + 1, g2, _, _, _, by omega, rfl, hok.full h0 hlen, rfl⟩
    · refine ex_run 30 ?_
      simp (maxSteps := 200000) only [h, push_cast, List.getD_cons_zero, List.getD_cons_succ, List.take_succ_cons, List.take_zero, List.drop_succ_cons, Nat.reduceLT, Nat.reduceLeDiff, Nat.reduceEqDiff, Nat.reduceAdd, Nat.reduceMul, Nat.reduceSub, Int.reduceToNat, Int.reduceLE, Int.reduceLT, Int.reduceEq, Int.reduceAdd, ↓reduceIte, decide_true, decide_false, and_self]
      have hie : i = (textsOf f).length := by rw [hT, List.length_map]; omega
      rw [← hie]
      exact ⟨_, _, _, [.own 1000 g 0 i], rfl, rfl, g, cs, R, rfl, rfl, hok⟩
end Go.Proofs.Yteapibifebnboaa
