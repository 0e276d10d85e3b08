/- mend.Mend -/
import Derived.Test.YteapibifebnboaaDoorMndK
set_option linter.unusedVariables false
set_option linter.unusedSimpArgs false
namespace Go.Proofs.YteapibifebnboaaDoor
open Go Go.Eng
theorem run_join3 {P : Program} {N : Nat} {α : Type} {c d : It} {k : List It} {Q : AS → Prop} {s : AS} (S : α → AS) (h1 : (∀ a, Run P N k Q (S a)) → Run P N (c :: d :: k) Q s)
    (h2 : ∀ a, Run P N k Q (S a)) : Run P N (c :: d :: k) Q s := h1 h2
theorem fitF_cons (r : Nat) (q : List Int × List Int) (T : List (List Int × List Int)) : fitF r (q :: T) = match pick q.1 q.2 with
    | none => fitF r T
    | some f => if r < 13 + (fbytes f).length then [] else f :: fitF (r - (13 + (fbytes f).length)) T := rfl
theorem pairsM_len (b : List Int) : (pairsM b).length = (listM b).length := by unfold pairsM; rw [List.length_zip, tagsM_len]; omega
theorem listM_len (b : List Int) : (listM b).length ≤ b.length + 1 := by
  have h1 : (listM b).length ≤ (splitL 30 (rawM b)).length := by
    unfold listM dropE
    split
    · rw [List.length_dropLast]; omega
    · exact Nat.le_refl _
  have h2 := splitL_len 30 (rawM b)
  have h3 : (rawM b).count 30 ≤ (rawM b).length := List.count_le_length
  have h4 : (rawM b).length ≤ b.length := by
    have := upTo_le 29 ((b.drop 24).drop ((linesM b).length + 1))
    rw [List.length_drop, List.length_drop] at this
    show (upTo 29 _).length ≤ _; omega
  omega
theorem pairsM_drop (b : List Int) (i : Nat) (h : i < (listM b).length) : (pairsM b).drop i = (tagM b i, (listM b)[i]) :: (pairsM b).drop (i + 1) := by
  have hp := pairsM_len b
  rw [List.drop_eq_getElem_cons (by omega)]
  congr 1
  unfold pairsM
  rw [List.getElem_zip]
  simp [tagsM]
theorem tgCells_at (b : List Int) (n i : Nat) (h : i < n) : (tgCells (tagsM b n)).getD i .dead = .str (tagM b i) := by
  rw [List.getD_eq_getElem?_getD, List.getElem?_eq_getElem (by rw [tgCells_len, tagsM_len]; exact h)]
  simp [tgCells, tagsM]
theorem rowCells_snoc' (L : List FV) (f : FV) : rowCells (L ++ [f]) = rowCells L ++ fCells f := by simp [rowCells]
set_option maxRecDepth 100000 in
set_option maxHeartbeats 8000000 in
theorem Mend_c (b : List Int) (hl : inB b) (hn : b.length ≤ 1099511627776) :
    ACall Tryd.prog 9 [.sl b.length (u8s b)] (.sl (mendM b).length (u8s (mendM b))) none := by
  refine acall_intro none Tryd.func9 rfl (by kernel_rfl) (by simp [Tryd.f9]) ?_
  refine ex_run 60 ?_
  simp (maxSteps := 200000) only [Tryd.f9, push_cast, List.getD_cons_zero, List.getD_cons_succ, List.take_succ_cons, List.take_zero, List.drop_succ_cons, Nat.reduceLT, Nat.reduceLeDiff, Nat.reduceEqDiff, Nat.reduceAdd, Nat.reduceMul, Nat.reduceSub, Int.reduceToNat, Int.reduceLE, Int.reduceLT, Int.reduceEq, Int.reduceAdd, ↓reduceIte, decide_true, decide_false, and_self]
  refine call_intro (PParse_c b (by omega) hl) (fun h => by cases h) ?_
  cases hp : rparse b with
  | inr r =>
    have hM : mendM b = b := by unfold mendM; rw [hp]
    rw [hM]
    have hrc : closedL (rowCells r.fields) = true := rowCells_closed _
    simp (maxSteps := 200000) only [rres, rCells, flt, hrc, push_cast, List.getD_cons_zero, List.getD_cons_succ, List.take_succ_cons, List.take_zero, List.drop_succ_cons, Nat.reduceLT, Nat.reduceLeDiff, Nat.reduceEqDiff, Nat.reduceAdd, Nat.reduceMul, Nat.reduceSub, Int.reduceToNat, Int.reduceLE, Int.reduceLT, Int.reduceEq, Int.reduceAdd, ↓reduceIte, decide_true, decide_false, and_self]
    refine call_intro (Clone_c b (by omega)) (fun h => by cases h) ?_
    simp (maxSteps := 200000) only [push_cast, List.getD_cons_zero, List.getD_cons_succ, List.take_succ_cons, List.take_zero, List.drop_succ_cons, Nat.reduceLT, Nat.reduceLeDiff, Nat.reduceEqDiff, Nat.reduceAdd, Nat.reduceMul, Nat.reduceSub, Int.reduceToNat, Int.reduceLE, Int.reduceLT, Int.reduceEq, Int.reduceAdd, ↓reduceIte, decide_true, decide_false, and_self]
    exact ⟨_, [.sl b.length (u8s b)], rfl, by simp [outA, outV, outC, mkS_env, mkS_tk, lkF, lkG, u8s_closed, AV.closed, closedL], .refl _, rfl⟩
  | inl x =>
    obtain ⟨e, a⟩ := x
    obtain ⟨he, ha1, ha2⟩ := rparse_inl hp
    simp (maxSteps := 200000) only [rres, rCells, zeroR, rowCells, List.flatMap_nil, List.length_nil, flt, he, push_cast, List.getD_cons_zero, List.getD_cons_succ, List.take_succ_cons, List.take_zero, List.drop_succ_cons, Nat.reduceLT, Nat.reduceLeDiff, Nat.reduceEqDiff, Nat.reduceAdd, Nat.reduceMul, Nat.reduceSub, Int.reduceToNat, Int.reduceLE, Int.reduceLT, Int.reduceEq, Int.reduceAdd, ↓reduceIte, decide_true, decide_false, and_self]
    have hM : mendM b = wbytes (recM b) := by unfold mendM; rw [hp]
    rw [hM]
    refine call_intro (Lead_c b (by omega) hl) (fun h => by cases h) ?_
    simp (maxSteps := 200000) only [push_cast, List.getD_cons_zero, List.getD_cons_succ, List.take_succ_cons, List.take_zero, List.drop_succ_cons, Nat.reduceLT, Nat.reduceLeDiff, Nat.reduceEqDiff, Nat.reduceAdd, Nat.reduceMul, Nat.reduceSub, Int.reduceToNat, Int.reduceLE, Int.reduceLT, Int.reduceEq, Int.reduceAdd, ↓reduceIte, decide_true, decide_false, and_self]
    refine call_intro (pieces_c b hl hn) (fun h => by cases h) ?_
    have hLc := txCells_length (listM b)
    have hTc := tgCells_len (tagsM b (listM b).length)
    rw [tagsM_len] at hTc
    have hc1 := txCells_closed (listM b)
    have hc2 := tgCells_closed (tagsM b (listM b).length)
    simp (maxSteps := 200000) only [hc1, hc2, push_cast, List.getD_cons_zero, List.getD_cons_succ, List.take_succ_cons, List.take_zero, List.drop_succ_cons, Nat.reduceLT, Nat.reduceLeDiff, Nat.reduceEqDiff, Nat.reduceAdd, Nat.reduceMul, Nat.reduceSub, Int.reduceToNat, Int.reduceLE, Int.reduceLT, Int.reduceEq, Int.reduceAdd, ↓reduceIte, decide_true, decide_false, and_self]
    refine run_lazyCell 5 1 100 5 ⟨_, 1, [.str (leadM b), .nilS]⟩ rfl rfl (by decide) ?_
    refine run_join3 (fun q : Nat × Nat => mkS [(5, .addr 5 16 0)] [(5, ⟨16, 1, [.str (leadM b), .own 100 q.1 0 (recM b).fields.length]⟩), (100, ⟨q.1, 5, rowCells (recM b).fields⟩)] q.2) (fun tail => ?_) ?_
    · refine run_keep (l' := [(5, .addr 5 16 0), (6, .sl (listM b).length (txCells (listM b))), (7, .sl (listM b).length (tgCells (tagsM b (listM b).length))), (8, .int .i64 (99973 : Nat)), (32, .sl (listM b).length (txCells (listM b))), (33, .int .i64 (listM b).length), (34, .int .i64 0)]) (t' := [(5, ⟨16, 1, [.str (leadM b), .own 100 _ 0 ([] : List FV).length]⟩), (100, ⟨_, 5, rowCells []⟩)]) (nx' := _) ⟨.refl _, .refl _, .refl _, .refl _, .refl _, .refl _, .refl _, trivial⟩ ⟨⟨_, rfl, rfl, rfl, SubL.refl _⟩, ⟨_, rfl, rfl, rfl, SubL.refl _⟩, trivial⟩ (Nat.le_refl _) ?_
      refine run_loop (fun k s => ∃ (i r g nx : Nat) (acc : List FV), i ≤ (listM b).length ∧ r ≤ 99973 ∧ fitF 99973 (pairsM b) = acc ++ fitF r ((pairsM b).drop i) ∧ acc.length ≤ i ∧ k = (listM b).length - i ∧ s = mkS [(5, .addr 5 16 0), (6, .sl (listM b).length (txCells (listM b))), (7, .sl (listM b).length (tgCells (tagsM b (listM b).length))), (8, .int .i64 r), (32, .sl (listM b).length (txCells (listM b))), (33, .int .i64 (listM b).length), (34, .int .i64 i)] [(5, ⟨16, 1, [.str (leadM b), .own 100 g 0 acc.length]⟩), (100, ⟨g, 5, rowCells acc⟩)] nx) _ ⟨0, 99973, _, _, [], Nat.zero_le _, Nat.le_refl _, rfl, Nat.le_refl _, rfl, rfl⟩ ?_
      rintro k s ⟨i, r, g, nx, acc, hi, hr, hfit, hacc, rfl, rfl⟩
      have hal := rowCells_length acc
      by_cases h : i < (listM b).length
      · have h' : (i : Int) < ((listM b).length : Int) := by omega
        have hLn := listM_len b
        have hpd := pairsM_drop b i h
        have hw : IntKind.i64.wrap ((i : Int) + 1) = ((i + 1 : Nat) : Int) := by rw [wrap_i64 (by omega)]; omega
        have hg1 := txCells_get (listM b) i h
        have hg2 := tgCells_at b (listM b).length i h
        have hP : Piece (listM b)[i] := listM_piece hl (List.getElem_mem h)
        have hpl : (listM b)[i].length ≤ b.length := by
          have h1 : (listM b)[i] ∈ splitL 30 (rawM b) := dropE_sub (List.getElem_mem h)
          have h2 := splitL_mem h1
          have h3 : (rawM b).length ≤ b.length := by
            have := upTo_le 29 ((b.drop 24).drop ((linesM b).length + 1))
            rw [List.length_drop, List.length_drop] at this
            show (upTo 29 _).length ≤ _; omega
          omega
        have htg := tagM_good b i
        generalize (listM b)[i] = p at *
        generalize tagM b i = tag at *
        have htl : tag.length = 3 := by
          unfold goodTag at htg; rw [Bool.and_eq_true] at htg; simpa using htg.2
        have hpos : 0 < (listM b).length := by omega
        have hcf := fCells_closed (ctlM tag p)
        refine ex_run 12 ?_
        simp (maxSteps := 200000) only [h, h', hg1, hg2, hLc, hTc, hpos, push_cast, List.getD_cons_zero, List.getD_cons_succ, List.take_succ_cons, List.take_zero, List.drop_succ_cons, Nat.reduceLT, Nat.reduceLeDiff, Nat.reduceEqDiff, Nat.reduceAdd, Nat.reduceMul, Nat.reduceSub, Int.reduceToNat, Int.reduceLE, Int.reduceLT, Int.reduceEq, Int.reduceAdd, ↓reduceIte, decide_true, decide_false, and_self]
        refine call_intro (mctl_c tag p (by omega) hP.1 (by omega)) (fun h => by cases h) ?_
        simp (maxSteps := 200000) only [fCells, subCells_closed, h, h', hg1, hg2, hLc, hTc, hpos, push_cast, List.getD_cons_zero, List.getD_cons_succ, List.take_succ_cons, List.take_zero, List.drop_succ_cons, Nat.reduceLT, Nat.reduceLeDiff, Nat.reduceEqDiff, Nat.reduceAdd, Nat.reduceMul, Nat.reduceSub, Int.reduceToNat, Int.reduceLE, Int.reduceLT, Int.reduceEq, Int.reduceAdd, ↓reduceIte, decide_true, decide_false, and_self]
        refine ex_run 2 ?_
        simp (maxSteps := 200000) only [h, h', hg1, hg2, hLc, hTc, hpos, push_cast, List.getD_cons_zero, List.getD_cons_succ, List.take_succ_cons, List.take_zero, List.drop_succ_cons, Nat.reduceLT, Nat.reduceLeDiff, Nat.reduceEqDiff, Nat.reduceAdd, Nat.reduceMul, Nat.reduceSub, Int.reduceToNat, Int.reduceLE, Int.reduceLT, Int.reduceEq, Int.reduceAdd, ↓reduceIte, decide_true, decide_false, and_self]
        refine call_intro (Control_c tag (by omega)) (fun h => by cases h) ?_
        cases hct : List.isPrefixOf [48, 48] tag with
        | true =>
          have hpk : pick tag p = some (ctlM tag p) := if_pos hct
          refine ex_run 8 ?_
          simp (maxSteps := 200000) only [subCells_closed, h, h', hg1, hg2, hLc, hTc, hpos, push_cast, List.getD_cons_zero, List.getD_cons_succ, List.take_succ_cons, List.take_zero, List.drop_succ_cons, Nat.reduceLT, Nat.reduceLeDiff, Nat.reduceEqDiff, Nat.reduceAdd, Nat.reduceMul, Nat.reduceSub, Int.reduceToNat, Int.reduceLE, Int.reduceLT, Int.reduceEq, Int.reduceAdd, ↓reduceIte, decide_true, decide_false, and_self]

          obtain ⟨k1, k2, k3, k4⟩ := pick_ok htg hP hpk
          have hsz := Size_c (ctlM tag p) (by rw [k2]; omega) (by omega)
          have hfit2 := hfit
          rw [hpd, fitF_cons, hpk] at hfit2
          simp only at hfit2
          have hcf := fCells_closed (ctlM tag p)
          have hcs := subCells_closed (ctlM tag p).subs
          generalize ctlM tag p = f at *
          refine call_intro hsz (fun h => by cases h) ?_
          have w1 : IntKind.i64.wrap (12 + ((fbytes f).length : Int)) = 12 + ((fbytes f).length : Int) := wrap_i64 (by omega)
          have w2 : IntKind.i64.wrap (12 + ((fbytes f).length : Int) + 1) = 12 + ((fbytes f).length : Int) + 1 := wrap_i64 (by omega)
          have w3 : IntKind.i64.wrap ((r : Int) - (12 + ((fbytes f).length : Int) + 1)) = (r : Int) - (12 + ((fbytes f).length : Int) + 1) := wrap_i64 (by omega)
          by_cases hrm : r < 13 + (fbytes f).length
          · have hrm' : (r : Int) - (12 + ((fbytes f).length : Int) + 1) < 0 := by omega
            rw [if_pos hrm, List.append_nil] at hfit2
            have hF : (recM b).fields = acc := hfit2
            simp (maxSteps := 200000) only [w1, w2, w3, hrm', push_cast, List.getD_cons_zero, List.getD_cons_succ, List.take_succ_cons, List.take_zero, List.drop_succ_cons, Nat.reduceLT, Nat.reduceLeDiff, Nat.reduceEqDiff, Nat.reduceAdd, Nat.reduceMul, Nat.reduceSub, Int.reduceToNat, Int.reduceLE, Int.reduceLT, Int.reduceEq, Int.reduceAdd, ↓reduceIte, decide_true, decide_false, and_self]
            refine ex_run 1 ?_
            simp (maxSteps := 200000) only [push_cast, List.getD_cons_zero, List.getD_cons_succ, List.take_succ_cons, List.take_zero, List.drop_succ_cons, Nat.reduceLT, Nat.reduceLeDiff, Nat.reduceEqDiff, Nat.reduceAdd, Nat.reduceMul, Nat.reduceSub, Int.reduceToNat, Int.reduceLE, Int.reduceLT, Int.reduceEq, Int.reduceAdd, ↓reduceIte, decide_true, decide_false, and_self]
            refine run_keep (l' := [(5, .addr 5 16 0)]) (t' := [(5, ⟨16, 1, [.str (leadM b), .own 100 g 0 (recM b).fields.length]⟩), (100, ⟨g, 5, rowCells (recM b).fields⟩)]) (nx' := _) ⟨.refl _, trivial⟩ ⟨⟨_, rfl, rfl, rfl, by rw [hF]; exact SubL.refl _⟩, ⟨_, rfl, rfl, rfl, by rw [hF]; exact SubL.refl _⟩, trivial⟩ (Nat.le_refl _) ?_
            exact tail (g, _)
          · have hrm' : ¬ (r : Int) - (12 + ((fbytes f).length : Int) + 1) < 0 := by omega
            rw [if_neg hrm, List.append_cons] at hfit2
            simp (maxSteps := 200000) only [w1, w2, w3, hrm', push_cast, List.getD_cons_zero, List.getD_cons_succ, List.take_succ_cons, List.take_zero, List.drop_succ_cons, Nat.reduceLT, Nat.reduceLeDiff, Nat.reduceEqDiff, Nat.reduceAdd, Nat.reduceMul, Nat.reduceSub, Int.reduceToNat, Int.reduceLE, Int.reduceLT, Int.reduceEq, Int.reduceAdd, ↓reduceIte, decide_true, decide_false, and_self]
            refine ex_run 30 ?_
            simp (maxSteps := 200000) only [hrm', hcs, hal, hw, push_cast, List.getD_cons_zero, List.getD_cons_succ, List.take_succ_cons, List.take_zero, List.drop_succ_cons, Nat.reduceLT, Nat.reduceLeDiff, Nat.reduceEqDiff, Nat.reduceAdd, Nat.reduceMul, Nat.reduceSub, Int.reduceToNat, Int.reduceLE, Int.reduceLT, Int.reduceEq, Int.reduceAdd, ↓reduceIte, decide_true, decide_false, and_self]
            have hsz2 := fitF_size 99973 (pairsM b)
            have hal2 : acc.length ≤ (fitF 99973 (pairsM b)).length := by rw [hfit2, List.length_append, List.length_append]; omega
            refine ⟨⟨by omega, by omega⟩, ?_⟩
            refine run_back_le (le_mk (l' := [(5, .addr 5 16 0), (6, .sl (listM b).length (txCells (listM b))), (7, .sl (listM b).length (tgCells (tagsM b (listM b).length))), (8, .int .i64 ((r - (13 + (fbytes f).length) : Nat) : Int)), (32, .sl (listM b).length (txCells (listM b))), (33, .int .i64 (listM b).length), (34, .int .i64 ((i + 1 : Nat) : Int))]) (t' := [(5, ⟨16, 1, [.str (leadM b), .own 100 _ 0 (acc ++ [f]).length]⟩), (100, ⟨_, 5, rowCells (acc ++ [f])⟩)]) (nx' := _) ⟨.refl _, .refl _, .refl _, .of_eq (congrArg (AV.int .i64) (by omega)), .refl _, .refl _, .of_eq (congrArg (AV.int .i64) (by omega)), trivial⟩ ⟨⟨_, rfl, rfl, rfl, ⟨.refl _, .of_eq (congrArg (AV.own 100 _ 0) (by simp)), trivial⟩⟩, ⟨_, rfl, rfl, rfl, by rw [rowCells_snoc']; exact SubL.refl _⟩, trivial⟩ (Nat.le_refl _)) ?_
            exact ⟨(listM b).length - (i + 1), by omega, i + 1, r - (13 + (fbytes f).length), _, _, acc ++ [f], by omega, by omega, hfit2, by rw [List.length_append]; simp; omega, rfl, rfl⟩
        | false =>
          refine ex_run 5 ?_
          simp (maxSteps := 200000) only [h, h', hg1, hg2, hLc, hTc, hpos, push_cast, List.getD_cons_zero, List.getD_cons_succ, List.take_succ_cons, List.take_zero, List.drop_succ_cons, Nat.reduceLT, Nat.reduceLeDiff, Nat.reduceEqDiff, Nat.reduceAdd, Nat.reduceMul, Nat.reduceSub, Int.reduceToNat, Int.reduceLE, Int.reduceLT, Int.reduceEq, Int.reduceAdd, ↓reduceIte, decide_true, decide_false, and_self]
          refine call_intro (data_c tag p (by omega) hP.1 (by omega)) (fun h => by cases h) ?_
          have hct' : ¬ ctl tag = true := by show ¬ List.isPrefixOf [48, 48] tag = true; rw [hct]; simp
          simp (maxSteps := 200000) only [fCells, subCells_closed, h, h', hg1, hg2, hLc, hTc, hpos, push_cast, List.getD_cons_zero, List.getD_cons_succ, List.take_succ_cons, List.take_zero, List.drop_succ_cons, Nat.reduceLT, Nat.reduceLeDiff, Nat.reduceEqDiff, Nat.reduceAdd, Nat.reduceMul, Nat.reduceSub, Int.reduceToNat, Int.reduceLE, Int.reduceLT, Int.reduceEq, Int.reduceAdd, ↓reduceIte, decide_true, decide_false, and_self]
          by_cases hs0 : (datM tag p).subs = []
          · have hpk : pick tag p = none := by unfold pick; rw [if_neg hct', if_pos hs0]
            have hs0' : (datM tag p).subs.length = 0 := by rw [hs0]; rfl
            have hfit2 := hfit
            rw [hpd, fitF_cons, hpk] at hfit2
            simp only at hfit2
            refine ex_run 30 ?_
            simp (maxSteps := 200000) only [subCells_closed, hs0', hw, h, h', hg1, hg2, hLc, hTc, hpos, push_cast, List.getD_cons_zero, List.getD_cons_succ, List.take_succ_cons, List.take_zero, List.drop_succ_cons, Nat.reduceLT, Nat.reduceLeDiff, Nat.reduceEqDiff, Nat.reduceAdd, Nat.reduceMul, Nat.reduceSub, Int.reduceToNat, Int.reduceLE, Int.reduceLT, Int.reduceEq, Int.reduceAdd, ↓reduceIte, decide_true, decide_false, and_self]
            refine run_back_le (le_mk (l' := [(5, .addr 5 16 0), (6, .sl (listM b).length (txCells (listM b))), (7, .sl (listM b).length (tgCells (tagsM b (listM b).length))), (8, .int .i64 r), (32, .sl (listM b).length (txCells (listM b))), (33, .int .i64 (listM b).length), (34, .int .i64 ((i + 1 : Nat) : Int))]) (t' := [(5, ⟨16, 1, [.str (leadM b), .own 100 g 0 acc.length]⟩), (100, ⟨g, 5, rowCells acc⟩)]) (nx' := _) ⟨.refl _, .refl _, .refl _, .refl _, .refl _, .refl _, .of_eq (congrArg (AV.int .i64) (by omega)), trivial⟩ ⟨⟨_, rfl, rfl, rfl, SubL.refl _⟩, ⟨_, rfl, rfl, rfl, SubL.refl _⟩, trivial⟩ (Nat.le_refl _)) ?_
            exact ⟨(listM b).length - (i + 1), by omega, i + 1, r, g, _, acc, by omega, hr, hfit2, by omega, rfl, rfl⟩
          · have hpk : pick tag p = some (datM tag p) := by unfold pick; rw [if_neg hct', if_neg hs0]
            have hs0' : ¬ ((datM tag p).subs.length : Int) = 0 := fun e => hs0 (List.eq_nil_of_length_eq_zero (by omega))
            refine ex_run 8 ?_
            simp (maxSteps := 200000) only [subCells_closed, hs0', h, h', hg1, hg2, hLc, hTc, hpos, push_cast, List.getD_cons_zero, List.getD_cons_succ, List.take_succ_cons, List.take_zero, List.drop_succ_cons, Nat.reduceLT, Nat.reduceLeDiff, Nat.reduceEqDiff, Nat.reduceAdd, Nat.reduceMul, Nat.reduceSub, Int.reduceToNat, Int.reduceLE, Int.reduceLT, Int.reduceEq, Int.reduceAdd, ↓reduceIte, decide_true, decide_false, and_self]
            obtain ⟨k1, k2, k3, k4⟩ := pick_ok htg hP hpk
            have hsz := Size_c (datM tag p) (by rw [k2]; omega) (by omega)
            have hfit2 := hfit
            rw [hpd, fitF_cons, hpk] at hfit2
            simp only at hfit2
            have hcf := fCells_closed (datM tag p)
            have hcs := subCells_closed (datM tag p).subs
            generalize datM tag p = f at *
            refine call_intro hsz (fun h => by cases h) ?_
            have w1 : IntKind.i64.wrap (12 + ((fbytes f).length : Int)) = 12 + ((fbytes f).length : Int) := wrap_i64 (by omega)
            have w2 : IntKind.i64.wrap (12 + ((fbytes f).length : Int) + 1) = 12 + ((fbytes f).length : Int) + 1 := wrap_i64 (by omega)
            have w3 : IntKind.i64.wrap ((r : Int) - (12 + ((fbytes f).length : Int) + 1)) = (r : Int) - (12 + ((fbytes f).length : Int) + 1) := wrap_i64 (by omega)
            by_cases hrm : r < 13 + (fbytes f).length
            · have hrm' : (r : Int) - (12 + ((fbytes f).length : Int) + 1) < 0 := by omega
              rw [if_pos hrm, List.append_nil] at hfit2
              have hF : (recM b).fields = acc := hfit2
              simp (maxSteps := 200000) only [w1, w2, w3, hrm', push_cast, List.getD_cons_zero, List.getD_cons_succ, List.take_succ_cons, List.take_zero, List.drop_succ_cons, Nat.reduceLT, Nat.reduceLeDiff, Nat.reduceEqDiff, Nat.reduceAdd, Nat.reduceMul, Nat.reduceSub, Int.reduceToNat, Int.reduceLE, Int.reduceLT, Int.reduceEq, Int.reduceAdd, ↓reduceIte, decide_true, decide_false, and_self]
              refine ex_run 1 ?_
              simp (maxSteps := 200000) only [push_cast, List.getD_cons_zero, List.getD_cons_succ, List.take_succ_cons, List.take_zero, List.drop_succ_cons, Nat.reduceLT, Nat.reduceLeDiff, Nat.reduceEqDiff, Nat.reduceAdd, Nat.reduceMul, Nat.reduceSub, Int.reduceToNat, Int.reduceLE, Int.reduceLT, Int.reduceEq, Int.reduceAdd, ↓reduceIte, decide_true, decide_false, and_self]
              refine run_keep (l' := [(5, .addr 5 16 0)]) (t' := [(5, ⟨16, 1, [.str (leadM b), .own 100 g 0 (recM b).fields.length]⟩), (100, ⟨g, 5, rowCells (recM b).fields⟩)]) (nx' := _) ⟨.refl _, trivial⟩ ⟨⟨_, rfl, rfl, rfl, by rw [hF]; exact SubL.refl _⟩, ⟨_, rfl, rfl, rfl, by rw [hF]; exact SubL.refl _⟩, trivial⟩ (Nat.le_refl _) ?_
              exact tail (g, _)
            · have hrm' : ¬ (r : Int) - (12 + ((fbytes f).length : Int) + 1) < 0 := by omega
              rw [if_neg hrm, List.append_cons] at hfit2
              simp (maxSteps := 200000) only [w1, w2, w3, hrm', push_cast, List.getD_cons_zero, List.getD_cons_succ, List.take_succ_cons, List.take_zero, List.drop_succ_cons, Nat.reduceLT, Nat.reduceLeDiff, Nat.reduceEqDiff, Nat.reduceAdd, Nat.reduceMul, Nat.reduceSub, Int.reduceToNat, Int.reduceLE, Int.reduceLT, Int.reduceEq, Int.reduceAdd, ↓reduceIte, decide_true, decide_false, and_self]
              refine ex_run 30 ?_
              simp (maxSteps := 200000) only [hrm', hcs, hal, hw, push_cast, List.getD_cons_zero, List.getD_cons_succ, List.take_succ_cons, List.take_zero, List.drop_succ_cons, Nat.reduceLT, Nat.reduceLeDiff, Nat.reduceEqDiff, Nat.reduceAdd, Nat.reduceMul, Nat.reduceSub, Int.reduceToNat, Int.reduceLE, Int.reduceLT, Int.reduceEq, Int.reduceAdd, ↓reduceIte, decide_true, decide_false, and_self]
              have hsz2 := fitF_size 99973 (pairsM b)
              have hal2 : acc.length ≤ (fitF 99973 (pairsM b)).length := by rw [hfit2, List.length_append, List.length_append]; omega
              refine ⟨⟨by omega, by omega⟩, ?_⟩
              refine run_back_le (le_mk (l' := [(5, .addr 5 16 0), (6, .sl (listM b).length (txCells (listM b))), (7, .sl (listM b).length (tgCells (tagsM b (listM b).length))), (8, .int .i64 ((r - (13 + (fbytes f).length) : Nat) : Int)), (32, .sl (listM b).length (txCells (listM b))), (33, .int .i64 (listM b).length), (34, .int .i64 ((i + 1 : Nat) : Int))]) (t' := [(5, ⟨16, 1, [.str (leadM b), .own 100 _ 0 (acc ++ [f]).length]⟩), (100, ⟨_, 5, rowCells (acc ++ [f])⟩)]) (nx' := _) ⟨.refl _, .refl _, .refl _, .of_eq (congrArg (AV.int .i64) (by omega)), .refl _, .refl _, .of_eq (congrArg (AV.int .i64) (by omega)), trivial⟩ ⟨⟨_, rfl, rfl, rfl, ⟨.refl _, .of_eq (congrArg (AV.own 100 _ 0) (by simp)), trivial⟩⟩, ⟨_, rfl, rfl, rfl, by rw [rowCells_snoc']; exact SubL.refl _⟩, trivial⟩ (Nat.le_refl _)) ?_
              exact ⟨(listM b).length - (i + 1), by omega, i + 1, r - (13 + (fbytes f).length), _, _, acc ++ [f], by omega, by omega, hfit2, by rw [List.length_append]; simp; omega, rfl, rfl⟩
      · have h' : ¬ (i : Int) < ((listM b).length : Int) := by omega
        have hF : (recM b).fields = acc := by
          show fitF 99973 (pairsM b) = acc
          rw [hfit, List.drop_of_length_le (by rw [pairsM_len]; omega)]; unfold fitF; exact List.append_nil _
        refine ex_run 5 ?_
        simp (maxSteps := 200000) only [h, h', push_cast, List.getD_cons_zero, List.getD_cons_succ, List.take_succ_cons, List.take_zero, List.drop_succ_cons, Nat.reduceLT, Nat.reduceLeDiff, Nat.reduceEqDiff, Nat.reduceAdd, Nat.reduceMul, Nat.reduceSub, Int.reduceToNat, Int.reduceLE, Int.reduceLT, Int.reduceEq, Int.reduceAdd, ↓reduceIte, decide_true, decide_false, and_self]
        refine run_keep (l' := [(5, .addr 5 16 0)]) (t' := [(5, ⟨16, 1, [.str (leadM b), .own 100 g 0 (recM b).fields.length]⟩), (100, ⟨g, 5, rowCells (recM b).fields⟩)]) (nx' := _) ⟨.refl _, trivial⟩ ⟨⟨_, rfl, rfl, rfl, by rw [hF]; exact SubL.refl _⟩, ⟨_, rfl, rfl, rfl, by rw [hF]; exact SubL.refl _⟩, trivial⟩ (Nat.le_refl _) ?_
        exact tail (g, _)
    · rintro ⟨g, nx⟩
      have hrl := rowCells_length (recM b).fields
      have hrt : (rowCells (recM b).fields).take ((recM b).fields.length * 5) = rowCells (recM b).fields := List.take_of_length_le (by omega)
      have hrc : closedL (rowCells (recM b).fields) = true := rowCells_closed _
      have hsz := fitF_size 99973 (pairsM b)
      refine ex_run 60 ?_
      simp (maxSteps := 200000) only [hrt, hrc, push_cast, List.getD_cons_zero, List.getD_cons_succ, List.take_succ_cons, List.take_zero, List.drop_succ_cons, Nat.reduceLT, Nat.reduceLeDiff, Nat.reduceEqDiff, Nat.reduceAdd, Nat.reduceMul, Nat.reduceSub, Int.reduceToNat, Int.reduceLE, Int.reduceLT, Int.reduceEq, Int.reduceAdd, ↓reduceIte, decide_true, decide_false, and_self]
      refine call_intro (Write_ok (recM_RB hl) (show (dataOf (fitF 99973 (pairsM b))).length ≤ 1000000 by omega) (recM_write hl)) (fun _ => ⟨rfl, fun T0 e => by cases e; exact u8s_noSl _⟩) ?_
      generalize wbytes (recM b) = w
      have hwt : (u8s w).take w.length = u8s w := List.take_of_length_le (by rw [u8s_length]; exact Nat.le_refl _)
      simp (maxSteps := 200000) only [flt, push_cast, List.getD_cons_zero, List.getD_cons_succ, List.take_succ_cons, List.take_zero, List.drop_succ_cons, Nat.reduceLT, Nat.reduceLeDiff, Nat.reduceEqDiff, Nat.reduceAdd, Nat.reduceMul, Nat.reduceSub, Int.reduceToNat, Int.reduceLE, Int.reduceLT, Int.reduceEq, Int.reduceAdd, ↓reduceIte, decide_true, decide_false, and_self]
      exact ⟨_, [.sl w.length (u8s w)], rfl, by simp [outA, outV, outC, mkS_env, mkS_tk, lkF, lkG, u8s_closed, hwt, AV.closed, closedL], .refl _, rfl⟩
end Go.Proofs.YteapibifebnboaaDoor
