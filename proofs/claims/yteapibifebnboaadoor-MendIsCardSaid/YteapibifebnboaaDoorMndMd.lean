/- ref19.Mend -/
import Derived.Test.YteapibifebnboaaDoorMndMp
import Derived.Test.YteapibifebnboaaDoorMndD
set_option linter.unusedVariables false
set_option linter.unusedSimpArgs false
namespace Go.Proofs.YteapibifebnboaaDoor
open Go Go.Eng
theorem frz_tx (g : Nat) (T : List (List Int)) : Frz 300 ⟨g, 1, txCells T⟩ (.own 300 g 0 T.length) (.sl T.length (txCells T)) := by
  have := Frz.own (t := 300) (T := ⟨g, 1, txCells T⟩) 0 T.length (by simp [txCells])
  have e : ((txCells T).drop 0).take (T.length * 1) = txCells T := List.take_of_length_le (by simp [txCells])
  rw [show ((⟨g, 1, txCells T⟩ : Tok).cs.drop 0).take (T.length * (⟨g, 1, txCells T⟩ : Tok).sz) = txCells T from e] at this
  exact this
def mdS (b : List Int) (EL : Nat) (more : List (Nat × AV)) (acc : List (List Int)) (now : List Int) (tid g gt nx : Nat) : AS :=
  mkS ([(0, .sl b.length (u8s b)), (2, .nilS), (5, .addr 5 16 0), (6, .int .i64 ((24 + EL : Nat) : Int)), (7, .own 300 g 0 acc.length), (8, .own tid gt 0 now.length)] ++ more) [(5, ⟨16, 1, [.str (leadM b), .nilS]⟩), (300, ⟨g, 1, txCells acc⟩), (tid, ⟨gt, 1, u8s now⟩)] nx
structure MdQ where
  acc : List (List Int)
  now : List Int
  tid : Nat
  g : Nat
  gt : Nat
  nx : Nat
set_option maxRecDepth 100000 in
set_option maxHeartbeats 8000000 in
theorem rMend_c (b : List Int) (hl : inB b) (hn : b.length ≤ 1099511627776) :
    ACall Tryd.prog 11 [.sl b.length (u8s b)] (.sl (mendM b).length (u8s (mendM b))) none := by
  have hbc := u8s_closed b
  have hbt : (u8s b).take b.length = u8s b := List.take_of_length_le (by rw [u8s_length]; exact Nat.le_refl _)
  refine acall_intro none Tryd.func11 rfl (by kernel_rfl) (by simp [Tryd.f11]) ?_
  refine ex_run 60 ?_
  simp (maxSteps := 200000) only [Tryd.f11, push_cast, List.getD_cons_zero, List.getD_cons_succ, List.take_succ_cons, List.take_zero, List.drop_succ_cons, Nat.reduceLT, Nat.reduceLeDiff, Nat.reduceEqDiff, Nat.reduceAdd, Nat.reduceMul, Nat.reduceSub, Int.reduceToNat, Int.reduceLE, Int.reduceLT, Int.reduceEq, Int.reduceAdd, ↓reduceIte, decide_true, decide_false, and_self]
  refine call_intro (rPParse_c b (by omega) hl) (fun h => by cases h) ?_
  cases hp : rparse b with
  | inr r =>
    have hM : mendM b = b := by unfold mendM; rw [hp]
    rw [hM]
    have hrc : closedL (rowCells r.fields) = true := rowCells_closed _
    simp (maxSteps := 200000) only [rres, rCells, flt, hrc, push_cast, List.getD_cons_zero, List.getD_cons_succ, List.take_succ_cons, List.take_zero, List.drop_succ_cons, Nat.reduceLT, Nat.reduceLeDiff, Nat.reduceEqDiff, Nat.reduceAdd, Nat.reduceMul, Nat.reduceSub, Int.reduceToNat, Int.reduceLE, Int.reduceLT, Int.reduceEq, Int.reduceAdd, ↓reduceIte, decide_true, decide_false, and_self]
    refine ⟨⟨by omega, by omega⟩, ?_⟩
    exact ⟨[.own 25 _ 0 b.length], [.sl b.length (u8s b)], rfl, by simp [outA, outV, outC, mkS_env, mkS_tk, lkF, lkG, hbc, hbt, AV.closed, closedL], .refl _, rfl⟩
  | inl x =>
    obtain ⟨e, a⟩ := x
    obtain ⟨he, ha1, ha2⟩ := rparse_inl hp
    simp (maxSteps := 200000) only [rres, rCells, zeroR, rowCells, List.flatMap_nil, List.length_nil, flt, he, push_cast, List.getD_cons_zero, List.getD_cons_succ, List.take_succ_cons, List.take_zero, List.drop_succ_cons, Nat.reduceLT, Nat.reduceLeDiff, Nat.reduceEqDiff, Nat.reduceAdd, Nat.reduceMul, Nat.reduceSub, Int.reduceToNat, Int.reduceLE, Int.reduceLT, Int.reduceEq, Int.reduceAdd, ↓reduceIte, decide_true, decide_false, and_self]
    have hM : mendM b = wbytes (recM b) := by unfold mendM; rw [hp]
    rw [hM]
    refine call_intro (rLead_c b (by omega) hl) (fun h => by cases h) ?_
    simp (maxSteps := 200000) only [push_cast, List.getD_cons_zero, List.getD_cons_succ, List.take_succ_cons, List.take_zero, List.drop_succ_cons, Nat.reduceLT, Nat.reduceLeDiff, Nat.reduceEqDiff, Nat.reduceAdd, Nat.reduceMul, Nat.reduceSub, Int.reduceToNat, Int.reduceLE, Int.reduceLT, Int.reduceEq, Int.reduceAdd, ↓reduceIte, decide_true, decide_false, and_self]
    have hLs : linesM b = upTo 30 (b.drop 24) := rfl
    have hst1 := upTo_step 30 (b.drop 24)
    have hle1 := upTo_le 30 (b.drop 24)
    have hRw := rawM_drop b
    have hdl24 : (b.drop 24).length = b.length - 24 := List.length_drop
    generalize hEL : (linesM b).length = EL at *
    rw [← hLs, hEL] at hst1 hle1
    refine run_join3 (fun nx : Nat => mkS [(0, .sl b.length (u8s b)), (2, .nilS), (5, .addr 5 16 0), (6, .int .i64 ((24 + EL : Nat) : Int))] [(5, ⟨16, 1, [.str (leadM b), .nilS]⟩)] nx) (fun tail => ?_) ?_
    · refine run_keep (l' := [(0, .sl b.length (u8s b)), (2, .nilS), (5, .addr 5 16 0), (6, .int .i64 ((24 + 0 : Nat) : Int))]) (t' := [(5, ⟨16, 1, [.str (leadM b), .nilS]⟩)]) (nx' := _) ⟨.refl _, .refl _, .refl _, .refl _, trivial⟩ ⟨⟨_, rfl, rfl, rfl, SubL.refl _⟩, trivial⟩ (Nat.le_refl _) ?_
      refine run_loop (fun n s => ∃ (j nx : Nat), j ≤ EL ∧ n = EL - j ∧ s = mkS [(0, .sl b.length (u8s b)), (2, .nilS), (5, .addr 5 16 0), (6, .int .i64 ((24 + j : Nat) : Int))] [(5, ⟨16, 1, [.str (leadM b), .nilS]⟩)] nx) _ ⟨0, _, Nat.zero_le _, rfl, rfl⟩ ?_
      rintro n s ⟨j, nx, hj, rfl, rfl⟩
      have hsj := hst1 j hj
      have hgd : (b.drop 24).getD j 0 = b.getD (24 + j) 0 := by simp only [List.getD_eq_getElem?_getD, List.getElem?_drop]
      rw [hgd, hdl24] at hsj
      generalize hK : 24 + j = K at *
      by_cases hjl : j < EL
      · obtain ⟨h1, h2⟩ := hsj.1 hjl
        have k1 : K < b.length := by omega
        have k2 : (K : Int) < (b.length : Int) := by omega
        have k3 : 0 < b.length := by omega
        have hg := u8s_getD b K k1
        have hw : IntKind.i64.wrap ((K : Int) + 1) = (K : Int) + 1 := wrap_i64 (by omega)
        refine ex_run 30 ?_
        simp (maxSteps := 200000) only [k1, k2, k3, hg, h2, hw, push_cast, List.getD_cons_zero, List.getD_cons_succ, List.take_succ_cons, List.take_zero, List.drop_succ_cons, Nat.reduceLT, Nat.reduceLeDiff, Nat.reduceEqDiff, Nat.reduceAdd, Nat.reduceMul, Nat.reduceSub, Int.reduceToNat, Int.reduceLE, Int.reduceLT, Int.reduceEq, Int.reduceAdd, ↓reduceIte, decide_true, decide_false, and_self]
        refine run_back_le (le_mk (l' := [(0, .sl b.length (u8s b)), (2, .nilS), (5, .addr 5 16 0), (6, .int .i64 ((24 + (j + 1) : Nat) : Int))]) (t' := [(5, ⟨16, 1, [.str (leadM b), .nilS]⟩)]) (nx' := _) ⟨.refl _, .refl _, .refl _, .of_eq (congrArg (AV.int .i64) (by omega)), trivial⟩ ⟨⟨_, rfl, rfl, rfl, SubL.refl _⟩, trivial⟩ (Nat.le_refl _)) ?_
        exact ⟨EL - (j + 1), by omega, j + 1, _, by omega, rfl, rfl⟩
      · have hje : j = EL := by omega
        by_cases k1 : K < b.length
        · have k2 : (K : Int) < (b.length : Int) := by omega
          have k3 : 0 < b.length := by omega
          have hg := u8s_getD b K k1
          have h2 : b.getD K 0 = 30 := by
            by_cases e : b.getD K 0 = 30
            · exact e
            · exact absurd (hsj.2 ⟨by omega, e⟩) hjl
          refine ex_run 5 ?_
          simp (maxSteps := 200000) only [k1, k2, k3, hg, h2, push_cast, List.getD_cons_zero, List.getD_cons_succ, List.take_succ_cons, List.take_zero, List.drop_succ_cons, Nat.reduceLT, Nat.reduceLeDiff, Nat.reduceEqDiff, Nat.reduceAdd, Nat.reduceMul, Nat.reduceSub, Int.reduceToNat, Int.reduceLE, Int.reduceLT, Int.reduceEq, Int.reduceAdd, ↓reduceIte, decide_true, decide_false, and_self]
          refine run_keep (l' := [(0, .sl b.length (u8s b)), (2, .nilS), (5, .addr 5 16 0), (6, .int .i64 ((24 + EL : Nat) : Int))]) (t' := [(5, ⟨16, 1, [.str (leadM b), .nilS]⟩)]) (nx' := _) ⟨.refl _, .refl _, .refl _, .of_eq (congrArg (AV.int .i64) (by omega)), trivial⟩ ⟨⟨_, rfl, rfl, rfl, SubL.refl _⟩, trivial⟩ (Nat.le_refl _) ?_
          exact tail _
        · have k2 : ¬ (K : Int) < (b.length : Int) := by omega
          refine ex_run 5 ?_
          simp (maxSteps := 200000) only [k2, push_cast, List.getD_cons_zero, List.getD_cons_succ, List.take_succ_cons, List.take_zero, List.drop_succ_cons, Nat.reduceLT, Nat.reduceLeDiff, Nat.reduceEqDiff, Nat.reduceAdd, Nat.reduceMul, Nat.reduceSub, Int.reduceToNat, Int.reduceLE, Int.reduceLT, Int.reduceEq, Int.reduceAdd, ↓reduceIte, decide_true, decide_false, and_self]
          refine run_keep (l' := [(0, .sl b.length (u8s b)), (2, .nilS), (5, .addr 5 16 0), (6, .int .i64 ((24 + EL : Nat) : Int))]) (t' := [(5, ⟨16, 1, [.str (leadM b), .nilS]⟩)]) (nx' := _) ⟨.refl _, .refl _, .refl _, .of_eq (congrArg (AV.int .i64) (by omega)), trivial⟩ ⟨⟨_, rfl, rfl, rfl, SubL.refl _⟩, trivial⟩ (Nat.le_refl _) ?_
          exact tail _
    · intro nx
      clear hst1 he ha1 ha2
      have hst2 := upTo_step 29 (b.drop (25 + EL))
      have hut := upTo_take 29 (b.drop (25 + EL))
      have hdl2 : (b.drop (25 + EL)).length = b.length - (25 + EL) := List.length_drop
      rw [← hRw] at hst2 hut
      have hlist : listM b = dropE (splitL 30 (rawM b)) := rfl
      generalize rawM b = raw at *
      have hw0 : IntKind.i64.wrap (24 + (EL : Int) + 1) = 24 + (EL : Int) + 1 := wrap_i64 (by omega)
      refine ex_run 30 ?_
      simp (maxSteps := 200000) only [hw0, push_cast, List.getD_cons_zero, List.getD_cons_succ, List.take_succ_cons, List.take_zero, List.drop_succ_cons, Nat.reduceLT, Nat.reduceLeDiff, Nat.reduceEqDiff, Nat.reduceAdd, Nat.reduceMul, Nat.reduceSub, Int.reduceToNat, Int.reduceLE, Int.reduceLT, Int.reduceEq, Int.reduceAdd, ↓reduceIte, decide_true, decide_false, and_self]
      refine run_lazy 7 300 1 rfl ?_
      refine run_join3 (fun q : {q : MdQ // splitL 30 raw = q.acc ++ [q.now] ∧ (q.tid = 44 ∨ q.tid = 67)} => mdS b EL [] q.1.acc q.1.now q.1.tid q.1.g q.1.gt q.1.nx) (fun tail => ?_) ?_
      · refine run_keep (l' := [(0, .sl b.length (u8s b)), (2, .nilS), (5, .addr 5 16 0), (6, .int .i64 ((24 + EL : Nat) : Int)), (7, .own 300 _ 0 ([] : List (List Int)).length), (8, .own 44 _ 0 ([] : List Int).length), (9, .int .i64 ((25 + EL + 0 : Nat) : Int))]) (t' := [(5, ⟨16, 1, [.str (leadM b), .nilS]⟩), (300, ⟨_, 1, txCells []⟩), (44, ⟨_, 1, u8s []⟩)]) (nx' := _) ⟨.refl _, .refl _, .refl _, .refl _, .refl _, .refl _, .of_eq (congrArg (AV.int .i64) (by omega)), trivial⟩ ⟨⟨_, rfl, rfl, rfl, SubL.refl _⟩, ⟨_, rfl, rfl, rfl, SubL.refl _⟩, ⟨_, rfl, rfl, rfl, SubL.refl _⟩, trivial⟩ (Nat.le_refl _) ?_
        refine run_loop (fun n s => ∃ (j : Nat) (acc : List (List Int)) (now : List Int) (tid g gt nx : Nat), j ≤ raw.length ∧ n = raw.length - j ∧ splitL 30 ((b.drop (25 + EL)).take j) = acc ++ [now] ∧ (tid = 44 ∨ tid = 67) ∧ s = mdS b EL [(9, .int .i64 ((25 + EL + j : Nat) : Int))] acc now tid g gt nx) _ ⟨0, [], [], 44, _, _, _, Nat.zero_le _, rfl, rfl, .inl rfl, rfl⟩ ?_
        rintro n s ⟨j, acc, now, tid, g, gt, nx, hj, rfl, hsp, htid, rfl⟩
        have hsj := hst2 j hj
        have hgd : (b.drop (25 + EL)).getD j 0 = b.getD (25 + EL + j) 0 := by simp only [List.getD_eq_getElem?_getD, List.getElem?_drop]
        have hcnt := splitL_count 30 _ hsp
        rw [List.length_take] at hcnt
        have hsn : ∀ (h : j < (b.drop (25 + EL)).length), splitL 30 ((b.drop (25 + EL)).take (j + 1)) = if b.getD (25 + EL + j) 0 = 30 then (acc ++ [now]) ++ [[]] else acc ++ [now ++ [b.getD (25 + EL + j) 0]] := fun h => by
          rw [take_succ_getD h, hgd]; exact splitL_snoc 30 _ _ _ _ hsp
        rw [hgd, hdl2] at hsj
        rw [hdl2] at hsn
        generalize hK : 25 + EL + j = K at *
        unfold mdS
        by_cases hjr : j < raw.length
        · obtain ⟨h1, e29⟩ := hsj.1 hjr
          have hsn := hsn h1
          have k1 : K < b.length := by omega
          have k2 : (K : Int) < (b.length : Int) := by omega
          have k3 : 0 < b.length := by omega
          have hg := u8s_getD b K k1
          have hw : IntKind.i64.wrap ((K : Int) + 1) = (K : Int) + 1 := wrap_i64 (by omega)
          have hnu : u8s now ++ [.int .u8 (b.getD K 0)] = u8s (now ++ [b.getD K 0]) := by simp [u8s]
          have hbx : closedL (u8s now) = true := u8s_closed _
          by_cases hb30 : b.getD K 0 = 30
          · rcases htid with rfl | rfl
            · refine Go.Eng.run_freeze (l' := [(0, .sl b.length (u8s b)), (2, .nilS), (5, .addr 5 16 0), (6, .int .i64 ((24 + EL : Nat) : Int)), (7, .own 300 g 0 acc.length), (8, .sl now.length (u8s now)), (9, .int .i64 (K : Nat))]) (tl' := [(5, ⟨16, 1, [.str (leadM b), .nilS]⟩), (300, ⟨g, 1, txCells acc⟩)]) 44 ⟨gt, 1, u8s now⟩ rfl ⟨.keep _, .keep _, .keep _, .keep _, .keep _, frz_own _ _ _, .keep _, trivial⟩ ⟨by decide, ⟨_, rfl, rfl, rfl, FrzL.refl _⟩, by decide, ⟨_, rfl, rfl, rfl, FrzL.refl _⟩, trivial⟩ ?_
              refine ex_run 30 ?_
              simp (maxSteps := 200000) only [k1, k2, k3, hg, hw, hb30, e29, hbx, txCells_length, push_cast, List.getD_cons_zero, List.getD_cons_succ, List.take_succ_cons, List.take_zero, List.drop_succ_cons, Nat.reduceLT, Nat.reduceLeDiff, Nat.reduceEqDiff, Nat.reduceAdd, Nat.reduceMul, Nat.reduceSub, Int.reduceToNat, Int.reduceLE, Int.reduceLT, Int.reduceEq, Int.reduceAdd, ↓reduceIte, decide_true, decide_false, and_self]
              repeat (first | (refine ⟨by omega, ?_⟩) | (refine ⟨⟨by omega, by omega⟩, ?_⟩))
              refine run_back_le (le_mk (l' := [(0, .sl b.length (u8s b)), (2, .nilS), (5, .addr 5 16 0), (6, .int .i64 ((24 + EL : Nat) : Int)), (7, .own 300 _ 0 (acc ++ [now]).length), (8, .own 67 _ 0 ([] : List Int).length), (9, .int .i64 ((25 + EL + (j + 1) : Nat) : Int))]) (t' := [(5, ⟨16, 1, [.str (leadM b), .nilS]⟩), (300, ⟨_, 1, txCells (acc ++ [now])⟩), (67, ⟨_, 1, u8s []⟩)]) (nx' := _) ⟨.refl _, .refl _, .refl _, .refl _, .of_eq (congrArg (AV.own 300 _ 0) (by simp)), .refl _, .of_eq (congrArg (AV.int .i64) (by omega)), trivial⟩ ⟨⟨_, rfl, rfl, rfl, SubL.refl _⟩, ⟨_, rfl, rfl, rfl, by rw [txCells_snoc]; exact SubL.refl _⟩, ⟨_, rfl, rfl, rfl, SubL.refl _⟩, trivial⟩ (Nat.le_refl _)) ?_
              exact ⟨raw.length - (j + 1), by omega, j + 1, acc ++ [now], [], 67, _, _, _, by omega, rfl, by rw [hsn, if_pos hb30], .inr rfl, rfl⟩
            · refine Go.Eng.run_freeze (l' := [(0, .sl b.length (u8s b)), (2, .nilS), (5, .addr 5 16 0), (6, .int .i64 ((24 + EL : Nat) : Int)), (7, .own 300 g 0 acc.length), (8, .sl now.length (u8s now)), (9, .int .i64 (K : Nat))]) (tl' := [(5, ⟨16, 1, [.str (leadM b), .nilS]⟩), (300, ⟨g, 1, txCells acc⟩)]) 67 ⟨gt, 1, u8s now⟩ rfl ⟨.keep _, .keep _, .keep _, .keep _, .keep _, frz_own _ _ _, .keep _, trivial⟩ ⟨by decide, ⟨_, rfl, rfl, rfl, FrzL.refl _⟩, by decide, ⟨_, rfl, rfl, rfl, FrzL.refl _⟩, trivial⟩ ?_
              refine ex_run 30 ?_
              simp (maxSteps := 200000) only [k1, k2, k3, hg, hw, hb30, e29, hbx, txCells_length, push_cast, List.getD_cons_zero, List.getD_cons_succ, List.take_succ_cons, List.take_zero, List.drop_succ_cons, Nat.reduceLT, Nat.reduceLeDiff, Nat.reduceEqDiff, Nat.reduceAdd, Nat.reduceMul, Nat.reduceSub, Int.reduceToNat, Int.reduceLE, Int.reduceLT, Int.reduceEq, Int.reduceAdd, ↓reduceIte, decide_true, decide_false, and_self]
              repeat (first | (refine ⟨by omega, ?_⟩) | (refine ⟨⟨by omega, by omega⟩, ?_⟩))
              refine run_back_le (le_mk (l' := [(0, .sl b.length (u8s b)), (2, .nilS), (5, .addr 5 16 0), (6, .int .i64 ((24 + EL : Nat) : Int)), (7, .own 300 _ 0 (acc ++ [now]).length), (8, .own 67 _ 0 ([] : List Int).length), (9, .int .i64 ((25 + EL + (j + 1) : Nat) : Int))]) (t' := [(5, ⟨16, 1, [.str (leadM b), .nilS]⟩), (300, ⟨_, 1, txCells (acc ++ [now])⟩), (67, ⟨_, 1, u8s []⟩)]) (nx' := _) ⟨.refl _, .refl _, .refl _, .refl _, .of_eq (congrArg (AV.own 300 _ 0) (by simp)), .refl _, .of_eq (congrArg (AV.int .i64) (by omega)), trivial⟩ ⟨⟨_, rfl, rfl, rfl, SubL.refl _⟩, ⟨_, rfl, rfl, rfl, by rw [txCells_snoc]; exact SubL.refl _⟩, ⟨_, rfl, rfl, rfl, SubL.refl _⟩, trivial⟩ (Nat.le_refl _)) ?_
              exact ⟨raw.length - (j + 1), by omega, j + 1, acc ++ [now], [], 67, _, _, _, by omega, rfl, by rw [hsn, if_pos hb30], .inr rfl, rfl⟩
          · rcases htid with rfl | rfl
            · refine ex_run 30 ?_
              simp (maxSteps := 200000) only [k1, k2, k3, hg, hw, hb30, e29, hnu, u8s_length, push_cast, List.getD_cons_zero, List.getD_cons_succ, List.take_succ_cons, List.take_zero, List.drop_succ_cons, Nat.reduceLT, Nat.reduceLeDiff, Nat.reduceEqDiff, Nat.reduceAdd, Nat.reduceMul, Nat.reduceSub, Int.reduceToNat, Int.reduceLE, Int.reduceLT, Int.reduceEq, Int.reduceAdd, ↓reduceIte, decide_true, decide_false, and_self]
              repeat (first | (refine ⟨by omega, ?_⟩) | (refine ⟨⟨by omega, by omega⟩, ?_⟩))
              refine run_back_le (le_mk (l' := [(0, .sl b.length (u8s b)), (2, .nilS), (5, .addr 5 16 0), (6, .int .i64 ((24 + EL : Nat) : Int)), (7, .own 300 g 0 acc.length), (8, .own 44 _ 0 (now ++ [b.getD K 0]).length), (9, .int .i64 ((25 + EL + (j + 1) : Nat) : Int))]) (t' := [(5, ⟨16, 1, [.str (leadM b), .nilS]⟩), (300, ⟨g, 1, txCells acc⟩), (44, ⟨_, 1, u8s (now ++ [b.getD K 0])⟩)]) (nx' := _) ⟨.refl _, .refl _, .refl _, .refl _, .refl _, .of_eq (congrArg (AV.own 44 _ 0) (by simp)), .of_eq (congrArg (AV.int .i64) (by omega)), trivial⟩ ⟨⟨_, rfl, rfl, rfl, SubL.refl _⟩, ⟨_, rfl, rfl, rfl, SubL.refl _⟩, ⟨_, rfl, rfl, rfl, SubL.refl _⟩, trivial⟩ (Nat.le_refl _)) ?_
              exact ⟨raw.length - (j + 1), by omega, j + 1, acc, now ++ [b.getD K 0], 44, _, _, _, by omega, rfl, by rw [hsn, if_neg hb30], .inl rfl, rfl⟩
            · refine ex_run 30 ?_
              simp (maxSteps := 200000) only [k1, k2, k3, hg, hw, hb30, e29, hnu, u8s_length, push_cast, List.getD_cons_zero, List.getD_cons_succ, List.take_succ_cons, List.take_zero, List.drop_succ_cons, Nat.reduceLT, Nat.reduceLeDiff, Nat.reduceEqDiff, Nat.reduceAdd, Nat.reduceMul, Nat.reduceSub, Int.reduceToNat, Int.reduceLE, Int.reduceLT, Int.reduceEq, Int.reduceAdd, ↓reduceIte, decide_true, decide_false, and_self]
              repeat (first | (refine ⟨by omega, ?_⟩) | (refine ⟨⟨by omega, by omega⟩, ?_⟩))
              refine run_back_le (le_mk (l' := [(0, .sl b.length (u8s b)), (2, .nilS), (5, .addr 5 16 0), (6, .int .i64 ((24 + EL : Nat) : Int)), (7, .own 300 g 0 acc.length), (8, .own 67 _ 0 (now ++ [b.getD K 0]).length), (9, .int .i64 ((25 + EL + (j + 1) : Nat) : Int))]) (t' := [(5, ⟨16, 1, [.str (leadM b), .nilS]⟩), (300, ⟨g, 1, txCells acc⟩), (67, ⟨_, 1, u8s (now ++ [b.getD K 0])⟩)]) (nx' := _) ⟨.refl _, .refl _, .refl _, .refl _, .refl _, .of_eq (congrArg (AV.own 67 _ 0) (by simp)), .of_eq (congrArg (AV.int .i64) (by omega)), trivial⟩ ⟨⟨_, rfl, rfl, rfl, SubL.refl _⟩, ⟨_, rfl, rfl, rfl, SubL.refl _⟩, ⟨_, rfl, rfl, rfl, SubL.refl _⟩, trivial⟩ (Nat.le_refl _)) ?_
              exact ⟨raw.length - (j + 1), by omega, j + 1, acc, now ++ [b.getD K 0], 67, _, _, _, by omega, rfl, by rw [hsn, if_neg hb30], .inr rfl, rfl⟩
        · have hje : j = raw.length := by omega
          have hfin : splitL 30 raw = acc ++ [now] := by rw [← hut, ← hje]; exact hsp
          by_cases k1 : K < b.length
          · have k2 : (K : Int) < (b.length : Int) := by omega
            have k3 : 0 < b.length := by omega
            have hg := u8s_getD b K k1
            have h2 : b.getD K 0 = 29 := by
              by_cases e : b.getD K 0 = 29
              · exact e
              · exact absurd (hsj.2 ⟨by omega, e⟩) hjr
            rcases htid with rfl | rfl
            · refine ex_run 12 ?_
              simp (maxSteps := 200000) only [k1, k2, k3, hg, h2, push_cast, List.getD_cons_zero, List.getD_cons_succ, List.take_succ_cons, List.take_zero, List.drop_succ_cons, Nat.reduceLT, Nat.reduceLeDiff, Nat.reduceEqDiff, Nat.reduceAdd, Nat.reduceMul, Nat.reduceSub, Int.reduceToNat, Int.reduceLE, Int.reduceLT, Int.reduceEq, Int.reduceAdd, ↓reduceIte, decide_true, decide_false, and_self]
              refine run_keep (l' := [(0, .sl b.length (u8s b)), (2, .nilS), (5, .addr 5 16 0), (6, .int .i64 ((24 + EL : Nat) : Int)), (7, .own 300 g 0 acc.length), (8, .own 44 gt 0 now.length)]) (t' := [(5, ⟨16, 1, [.str (leadM b), .nilS]⟩), (300, ⟨g, 1, txCells acc⟩), (44, ⟨gt, 1, u8s now⟩)]) (nx' := _) ⟨.refl _, .refl _, .refl _, .refl _, .refl _, .refl _, trivial⟩ ⟨⟨_, rfl, rfl, rfl, SubL.refl _⟩, ⟨_, rfl, rfl, rfl, SubL.refl _⟩, ⟨_, rfl, rfl, rfl, SubL.refl _⟩, trivial⟩ (Nat.le_refl _) ?_
              exact tail ⟨⟨acc, now, 44, g, gt, _⟩, hfin, .inl rfl⟩
            · refine ex_run 12 ?_
              simp (maxSteps := 200000) only [k1, k2, k3, hg, h2, push_cast, List.getD_cons_zero, List.getD_cons_succ, List.take_succ_cons, List.take_zero, List.drop_succ_cons, Nat.reduceLT, Nat.reduceLeDiff, Nat.reduceEqDiff, Nat.reduceAdd, Nat.reduceMul, Nat.reduceSub, Int.reduceToNat, Int.reduceLE, Int.reduceLT, Int.reduceEq, Int.reduceAdd, ↓reduceIte, decide_true, decide_false, and_self]
              refine run_keep (l' := [(0, .sl b.length (u8s b)), (2, .nilS), (5, .addr 5 16 0), (6, .int .i64 ((24 + EL : Nat) : Int)), (7, .own 300 g 0 acc.length), (8, .own 67 gt 0 now.length)]) (t' := [(5, ⟨16, 1, [.str (leadM b), .nilS]⟩), (300, ⟨g, 1, txCells acc⟩), (67, ⟨gt, 1, u8s now⟩)]) (nx' := _) ⟨.refl _, .refl _, .refl _, .refl _, .refl _, .refl _, trivial⟩ ⟨⟨_, rfl, rfl, rfl, SubL.refl _⟩, ⟨_, rfl, rfl, rfl, SubL.refl _⟩, ⟨_, rfl, rfl, rfl, SubL.refl _⟩, trivial⟩ (Nat.le_refl _) ?_
              exact tail ⟨⟨acc, now, 67, g, gt, _⟩, hfin, .inr rfl⟩
          · have k2 : ¬ (K : Int) < (b.length : Int) := by omega
            rcases htid with rfl | rfl
            · refine ex_run 5 ?_
              simp (maxSteps := 200000) only [k2, push_cast, List.getD_cons_zero, List.getD_cons_succ, List.take_succ_cons, List.take_zero, List.drop_succ_cons, Nat.reduceLT, Nat.reduceLeDiff, Nat.reduceEqDiff, Nat.reduceAdd, Nat.reduceMul, Nat.reduceSub, Int.reduceToNat, Int.reduceLE, Int.reduceLT, Int.reduceEq, Int.reduceAdd, ↓reduceIte, decide_true, decide_false, and_self]
              refine run_keep (l' := [(0, .sl b.length (u8s b)), (2, .nilS), (5, .addr 5 16 0), (6, .int .i64 ((24 + EL : Nat) : Int)), (7, .own 300 g 0 acc.length), (8, .own 44 gt 0 now.length)]) (t' := [(5, ⟨16, 1, [.str (leadM b), .nilS]⟩), (300, ⟨g, 1, txCells acc⟩), (44, ⟨gt, 1, u8s now⟩)]) (nx' := _) ⟨.refl _, .refl _, .refl _, .refl _, .refl _, .refl _, trivial⟩ ⟨⟨_, rfl, rfl, rfl, SubL.refl _⟩, ⟨_, rfl, rfl, rfl, SubL.refl _⟩, ⟨_, rfl, rfl, rfl, SubL.refl _⟩, trivial⟩ (Nat.le_refl _) ?_
              exact tail ⟨⟨acc, now, 44, g, gt, _⟩, hfin, .inl rfl⟩
            · refine ex_run 5 ?_
              simp (maxSteps := 200000) only [k2, push_cast, List.getD_cons_zero, List.getD_cons_succ, List.take_succ_cons, List.take_zero, List.drop_succ_cons, Nat.reduceLT, Nat.reduceLeDiff, Nat.reduceEqDiff, Nat.reduceAdd, Nat.reduceMul, Nat.reduceSub, Int.reduceToNat, Int.reduceLE, Int.reduceLT, Int.reduceEq, Int.reduceAdd, ↓reduceIte, decide_true, decide_false, and_self]
              refine run_keep (l' := [(0, .sl b.length (u8s b)), (2, .nilS), (5, .addr 5 16 0), (6, .int .i64 ((24 + EL : Nat) : Int)), (7, .own 300 g 0 acc.length), (8, .own 67 gt 0 now.length)]) (t' := [(5, ⟨16, 1, [.str (leadM b), .nilS]⟩), (300, ⟨g, 1, txCells acc⟩), (67, ⟨gt, 1, u8s now⟩)]) (nx' := _) ⟨.refl _, .refl _, .refl _, .refl _, .refl _, .refl _, trivial⟩ ⟨⟨_, rfl, rfl, rfl, SubL.refl _⟩, ⟨_, rfl, rfl, rfl, SubL.refl _⟩, ⟨_, rfl, rfl, rfl, SubL.refl _⟩, trivial⟩ (Nat.le_refl _) ?_
              exact tail ⟨⟨acc, now, 67, g, gt, _⟩, hfin, .inr rfl⟩
      · rintro ⟨⟨acc, now, tid, g, gt, nx⟩, hfin, htid⟩
        have hcnt := splitL_count 30 _ hfin
        rw [hfin, dropE_snoc] at hlist
        have hrl : raw.length ≤ b.length := by have := congrArg List.length hut; rw [List.length_take] at this; omega
        simp only at htid hcnt hlist
        unfold mdS
        simp only [List.append_nil]
        refine run_join (fun nx : Nat => mkS [(0, .sl b.length (u8s b)), (2, .nilS), (5, .addr 5 16 0), (6, .int .i64 ((24 + EL : Nat) : Int)), (7, .sl (listM b).length (txCells (listM b)))] [(5, ⟨16, 1, [.str (leadM b), .nilS]⟩)] nx) (fun tail => ?_) ?_
        · rcases htid with rfl | rfl
          · by_cases hn0 : now = []
            · subst hn0
              rw [if_pos rfl] at hlist
              refine Go.Eng.run_freeze (l' := [(0, .sl b.length (u8s b)), (2, .nilS), (5, .addr 5 16 0), (6, .int .i64 ((24 + EL : Nat) : Int)), (7, .sl acc.length (txCells acc)), (8, .own 44 gt 0 0)]) (tl' := [(5, ⟨16, 1, [.str (leadM b), .nilS]⟩), (44, ⟨gt, 1, u8s []⟩)]) 300 ⟨g, 1, txCells acc⟩ rfl ⟨.keep _, .keep _, .keep _, .keep _, frz_tx _ _, .keep _, trivial⟩ ⟨by decide, ⟨_, rfl, rfl, rfl, FrzL.refl _⟩, by decide, ⟨_, rfl, rfl, rfl, FrzL.refl _⟩, trivial⟩ ?_
              refine ex_run 5 ?_
              simp (maxSteps := 200000) only [List.length_nil, push_cast, List.getD_cons_zero, List.getD_cons_succ, List.take_succ_cons, List.take_zero, List.drop_succ_cons, Nat.reduceLT, Nat.reduceLeDiff, Nat.reduceEqDiff, Nat.reduceAdd, Nat.reduceMul, Nat.reduceSub, Int.reduceToNat, Int.reduceLE, Int.reduceLT, Int.reduceEq, Int.reduceAdd, ↓reduceIte, decide_true, decide_false, and_self]
              refine run_keep (l' := [(0, .sl b.length (u8s b)), (2, .nilS), (5, .addr 5 16 0), (6, .int .i64 ((24 + EL : Nat) : Int)), (7, .sl (listM b).length (txCells (listM b)))]) (t' := [(5, ⟨16, 1, [.str (leadM b), .nilS]⟩)]) (nx' := _) ⟨.refl _, .refl _, .refl _, .refl _, by rw [hlist]; exact .refl _, trivial⟩ ⟨⟨_, rfl, rfl, rfl, SubL.refl _⟩, trivial⟩ (Nat.le_refl _) ?_
              exact tail _
            · rw [if_neg hn0] at hlist
              have hn1 : (0 : Int) < (now.length : Int) := by have := List.length_pos_iff.2 hn0; omega
              refine Go.Eng.run_freeze (l' := [(0, .sl b.length (u8s b)), (2, .nilS), (5, .addr 5 16 0), (6, .int .i64 ((24 + EL : Nat) : Int)), (7, .own 300 g 0 acc.length), (8, .sl now.length (u8s now))]) (tl' := [(5, ⟨16, 1, [.str (leadM b), .nilS]⟩), (300, ⟨g, 1, txCells acc⟩)]) 44 ⟨gt, 1, u8s now⟩ rfl ⟨.keep _, .keep _, .keep _, .keep _, .keep _, frz_own _ _ _, trivial⟩ ⟨by decide, ⟨_, rfl, rfl, rfl, FrzL.refl _⟩, by decide, ⟨_, rfl, rfl, rfl, FrzL.refl _⟩, trivial⟩ ?_
              refine ex_run 5 ?_
              simp (maxSteps := 200000) only [hn1, txCells_length, push_cast, List.getD_cons_zero, List.getD_cons_succ, List.take_succ_cons, List.take_zero, List.drop_succ_cons, Nat.reduceLT, Nat.reduceLeDiff, Nat.reduceEqDiff, Nat.reduceAdd, Nat.reduceMul, Nat.reduceSub, Int.reduceToNat, Int.reduceLE, Int.reduceLT, Int.reduceEq, Int.reduceAdd, ↓reduceIte, decide_true, decide_false, and_self]
              repeat (first | (refine ⟨by omega, ?_⟩) | (refine ⟨⟨by omega, by omega⟩, ?_⟩))
              refine run_keep (l' := [(0, .sl b.length (u8s b)), (2, .nilS), (5, .addr 5 16 0), (6, .int .i64 ((24 + EL : Nat) : Int)), (7, .own 300 _ 0 (acc ++ [now]).length)]) (t' := [(5, ⟨16, 1, [.str (leadM b), .nilS]⟩), (300, ⟨_, 1, txCells (acc ++ [now])⟩)]) (nx' := _) ⟨.refl _, .refl _, .refl _, .refl _, .of_eq (congrArg (AV.own 300 _ 0) (by simp)), trivial⟩ ⟨⟨_, rfl, rfl, rfl, SubL.refl _⟩, ⟨_, rfl, rfl, rfl, by rw [txCells_snoc]; exact SubL.refl _⟩, trivial⟩ (Nat.le_refl _) ?_
              refine Go.Eng.run_freeze (l' := [(0, .sl b.length (u8s b)), (2, .nilS), (5, .addr 5 16 0), (6, .int .i64 ((24 + EL : Nat) : Int)), (7, .sl (acc ++ [now]).length (txCells (acc ++ [now])))]) (tl' := [(5, ⟨16, 1, [.str (leadM b), .nilS]⟩)]) 300 ⟨_, 1, txCells (acc ++ [now])⟩ rfl ⟨.keep _, .keep _, .keep _, .keep _, frz_tx _ _, trivial⟩ ⟨by decide, ⟨_, rfl, rfl, rfl, FrzL.refl _⟩, trivial⟩ ?_
              rw [← hlist]
              exact tail _
          · by_cases hn0 : now = []
            · subst hn0
              rw [if_pos rfl] at hlist
              refine Go.Eng.run_freeze (l' := [(0, .sl b.length (u8s b)), (2, .nilS), (5, .addr 5 16 0), (6, .int .i64 ((24 + EL : Nat) : Int)), (7, .sl acc.length (txCells acc)), (8, .own 67 gt 0 0)]) (tl' := [(5, ⟨16, 1, [.str (leadM b), .nilS]⟩), (67, ⟨gt, 1, u8s []⟩)]) 300 ⟨g, 1, txCells acc⟩ rfl ⟨.keep _, .keep _, .keep _, .keep _, frz_tx _ _, .keep _, trivial⟩ ⟨by decide, ⟨_, rfl, rfl, rfl, FrzL.refl _⟩, by decide, ⟨_, rfl, rfl, rfl, FrzL.refl _⟩, trivial⟩ ?_
              refine ex_run 5 ?_
              simp (maxSteps := 200000) only [List.length_nil, push_cast, List.getD_cons_zero, List.getD_cons_succ, List.take_succ_cons, List.take_zero, List.drop_succ_cons, Nat.reduceLT, Nat.reduceLeDiff, Nat.reduceEqDiff, Nat.reduceAdd, Nat.reduceMul, Nat.reduceSub, Int.reduceToNat, Int.reduceLE, Int.reduceLT, Int.reduceEq, Int.reduceAdd, ↓reduceIte, decide_true, decide_false, and_self]
              refine run_keep (l' := [(0, .sl b.length (u8s b)), (2, .nilS), (5, .addr 5 16 0), (6, .int .i64 ((24 + EL : Nat) : Int)), (7, .sl (listM b).length (txCells (listM b)))]) (t' := [(5, ⟨16, 1, [.str (leadM b), .nilS]⟩)]) (nx' := _) ⟨.refl _, .refl _, .refl _, .refl _, by rw [hlist]; exact .refl _, trivial⟩ ⟨⟨_, rfl, rfl, rfl, SubL.refl _⟩, trivial⟩ (Nat.le_refl _) ?_
              exact tail _
            · rw [if_neg hn0] at hlist
              have hn1 : (0 : Int) < (now.length : Int) := by have := List.length_pos_iff.2 hn0; omega
              refine Go.Eng.run_freeze (l' := [(0, .sl b.length (u8s b)), (2, .nilS), (5, .addr 5 16 0), (6, .int .i64 ((24 + EL : Nat) : Int)), (7, .own 300 g 0 acc.length), (8, .sl now.length (u8s now))]) (tl' := [(5, ⟨16, 1, [.str (leadM b), .nilS]⟩), (300, ⟨g, 1, txCells acc⟩)]) 67 ⟨gt, 1, u8s now⟩ rfl ⟨.keep _, .keep _, .keep _, .keep _, .keep _, frz_own _ _ _, trivial⟩ ⟨by decide, ⟨_, rfl, rfl, rfl, FrzL.refl _⟩, by decide, ⟨_, rfl, rfl, rfl, FrzL.refl _⟩, trivial⟩ ?_
              refine ex_run 5 ?_
              simp (maxSteps := 200000) only [hn1, txCells_length, push_cast, List.getD_cons_zero, List.getD_cons_succ, List.take_succ_cons, List.take_zero, List.drop_succ_cons, Nat.reduceLT, Nat.reduceLeDiff, Nat.reduceEqDiff, Nat.reduceAdd, Nat.reduceMul, Nat.reduceSub, Int.reduceToNat, Int.reduceLE, Int.reduceLT, Int.reduceEq, Int.reduceAdd, ↓reduceIte, decide_true, decide_false, and_self]
              repeat (first | (refine ⟨by omega, ?_⟩) | (refine ⟨⟨by omega, by omega⟩, ?_⟩))
              refine run_keep (l' := [(0, .sl b.length (u8s b)), (2, .nilS), (5, .addr 5 16 0), (6, .int .i64 ((24 + EL : Nat) : Int)), (7, .own 300 _ 0 (acc ++ [now]).length)]) (t' := [(5, ⟨16, 1, [.str (leadM b), .nilS]⟩), (300, ⟨_, 1, txCells (acc ++ [now])⟩)]) (nx' := _) ⟨.refl _, .refl _, .refl _, .refl _, .of_eq (congrArg (AV.own 300 _ 0) (by simp)), trivial⟩ ⟨⟨_, rfl, rfl, rfl, SubL.refl _⟩, ⟨_, rfl, rfl, rfl, by rw [txCells_snoc]; exact SubL.refl _⟩, trivial⟩ (Nat.le_refl _) ?_
              refine Go.Eng.run_freeze (l' := [(0, .sl b.length (u8s b)), (2, .nilS), (5, .addr 5 16 0), (6, .int .i64 ((24 + EL : Nat) : Int)), (7, .sl (acc ++ [now]).length (txCells (acc ++ [now])))]) (tl' := [(5, ⟨16, 1, [.str (leadM b), .nilS]⟩)]) 300 ⟨_, 1, txCells (acc ++ [now])⟩ rfl ⟨.keep _, .keep _, .keep _, .keep _, frz_tx _ _, trivial⟩ ⟨by decide, ⟨_, rfl, rfl, rfl, FrzL.refl _⟩, trivial⟩ ?_
              rw [← hlist]
              exact tail _
        · intro nx
          clear hfin htid hcnt hlist hst2 hut hRw hrl
          refine run_lazyCell 5 1 100 5 ⟨16, 1, [.str (leadM b), .nilS]⟩ rfl rfl (by decide) ?_
          refine ex_run 30 ?_
          simp (maxSteps := 200000) only [push_cast, List.getD_cons_zero, List.getD_cons_succ, List.take_succ_cons, List.take_zero, List.drop_succ_cons, Nat.reduceLT, Nat.reduceLeDiff, Nat.reduceEqDiff, Nat.reduceAdd, Nat.reduceMul, Nat.reduceSub, Int.reduceToNat, Int.reduceLE, Int.reduceLT, Int.reduceEq, Int.reduceAdd, ↓reduceIte, decide_true, decide_false, and_self]
          refine run_join3 (fun q : Nat × Nat => mkS [(5, .addr 5 16 0)] [(5, ⟨16, 1, [.str (leadM b), .own 100 q.1 0 (recM b).fields.length]⟩), (100, ⟨q.1, 5, rowCells (recM b).fields⟩)] q.2) (fun tail => ?_) ?_
          · refine run_keep (l' := [(0, .sl b.length (u8s b)), (2, .nilS), (5, .addr 5 16 0), (6, .int .i64 ((24 + EL : Nat) : Int)), (7, .sl (listM b).length (txCells (listM b))), (10, .int .i64 (99999 - ((99973 : Nat) : Int))), (11, .int .i64 0)]) (t' := [(5, ⟨16, 1, [.str (leadM b), .own 100 _ 0 ([] : List FV).length]⟩), (100, ⟨_, 5, rowCells []⟩)]) (nx' := _) ⟨.refl _, .refl _, .refl _, .refl _, .refl _, .of_eq (congrArg (AV.int .i64) (by omega)), .refl _, trivial⟩ ⟨⟨_, rfl, rfl, rfl, SubL.refl _⟩, ⟨_, rfl, rfl, rfl, SubL.refl _⟩, trivial⟩ (Nat.le_refl _) ?_
            refine run_loop (fun k s => ∃ (i r g nx : Nat) (acc : List FV), i ≤ (listM b).length ∧ r ≤ 99973 ∧ fitF 99973 (pairsM b) = acc ++ fitF r ((pairsM b).drop i) ∧ acc.length ≤ i ∧ k = (listM b).length - i ∧ s = mkS [(0, .sl b.length (u8s b)), (2, .nilS), (5, .addr 5 16 0), (6, .int .i64 ((24 + EL : Nat) : Int)), (7, .sl (listM b).length (txCells (listM b))), (10, .int .i64 (99999 - (r : Int))), (11, .int .i64 i)] [(5, ⟨16, 1, [.str (leadM b), .own 100 g 0 acc.length]⟩), (100, ⟨g, 5, rowCells acc⟩)] nx) _ ⟨0, 99973, _, _, [], Nat.zero_le _, Nat.le_refl _, rfl, Nat.le_refl _, rfl, rfl⟩ ?_
            rintro k s ⟨i, r, g, nx, acc, hi, hr, hfit, hacc, rfl, rfl⟩
            have hal := rowCells_length acc
            have hLc := txCells_length (listM b)
            by_cases h : i < (listM b).length
            · have h' : (i : Int) < ((listM b).length : Int) := by omega
              have hLn := listM_len b
              have hpd := pairsM_drop b i h
              have hw : IntKind.i64.wrap ((i : Int) + 1) = ((i + 1 : Nat) : Int) := by rw [wrap_i64 (by omega)]; omega
              have hg1 := txCells_get (listM b) i h
              have hP : Piece (listM b)[i] := listM_piece hl (List.getElem_mem h)
              have hpl : (listM b)[i].length ≤ b.length := by
                have h1 : (listM b)[i] ∈ splitL 30 (rawM b) := dropE_sub (List.getElem_mem h)
                have h2 := splitL_mem h1
                have h3 : (rawM b).length ≤ b.length := by
                  have := upTo_le 29 ((b.drop 24).drop ((linesM b).length + 1))
                  rw [List.length_drop, List.length_drop] at this
                  show (upTo 29 _).length ≤ _; omega
                omega
              have htg := tagM_good b i
              have htag : tagM b i = if 12 * i + 3 ≤ (linesM b).length ∧ goodTag (tagAt b i) = true then tagAt b i else [57, 57, 57] := rfl
              rw [hEL] at htag
              have hta : 12 * i + 3 ≤ EL → (b.take (24 + 12 * i + 3)).drop (24 + 12 * i) = tagAt b i ∧ (tagAt b i).length = 3 := fun hz => by
                have hu := upTo_take 30 (b.drop 24)
                rw [← hLs, hEL] at hu
                have e : tagAt b i = (b.take (24 + 12 * i + 3)).drop (24 + 12 * i) := by
                  unfold tagAt
                  rw [← hu, List.drop_take, List.take_take, List.drop_take, List.drop_drop]
                  congr 1; omega
                refine ⟨e.symm, ?_⟩
                rw [e, List.length_drop, List.length_take]; omega
              have hio : intsOf (u8s (tagAt b i)) = some (tagAt b i) := intsOf_u8s _
              have hui : u8n (tagAt b i) = tagAt b i := u8n_eq fun c hc => (show inB (linesM b) from upTo_in (inB_drop hl 24)) c (List.mem_of_mem_drop (List.mem_of_mem_take hc))
              have h999 : bytesOf { data := #[57, 57, 57] } = [57, 57, 57] := rfl
              generalize (listM b)[i] = p at *
              generalize tagM b i = tag at *
              generalize tagAt b i = ta at *
              have htl : tag.length = 3 := by
                unfold goodTag at htg; rw [Bool.and_eq_true] at htg; simpa using htg.2
              have hpos : 0 < (listM b).length := by omega
              have hw1 : IntKind.i64.wrap (12 * (i : Int)) = 12 * (i : Int) := wrap_i64 (by omega)
              have hw2 : IntKind.i64.wrap (24 + 12 * (i : Int)) = ((24 + 12 * i : Nat) : Int) := by rw [wrap_i64 (by omega)]; omega
              have hT1 : 12 * i + 3 ≤ EL → goodTag ta = true → tag = ta := fun h1 h2 => by rw [htag, if_pos ⟨h1, h2⟩]
              have hT0 : ¬ (12 * i + 3 ≤ EL ∧ goodTag ta = true) → tag = [57, 57, 57] := fun h1 => by rw [htag, if_neg h1]
              clear htag
              generalize h12 : 24 + 12 * i = z at *
              have hw3 : IntKind.i64.wrap ((z : Int) + 3) = (z : Int) + 3 := wrap_i64 (by omega)
              have hw4 : ((z : Int) + 3).toNat = z + 3 := by omega
              refine ex_run 11 ?_
              simp (maxSteps := 200000) only [h', hw1, hw2, h999, hLc, push_cast, List.getD_cons_zero, List.getD_cons_succ, List.take_succ_cons, List.take_zero, List.drop_succ_cons, Nat.reduceLT, Nat.reduceLeDiff, Nat.reduceEqDiff, Nat.reduceAdd, Nat.reduceMul, Nat.reduceSub, Int.reduceToNat, Int.reduceLE, Int.reduceLT, Int.reduceEq, Int.reduceAdd, ↓reduceIte, decide_true, decide_false, and_self]
              refine run_join (fun nx : Nat => mkS [(0, .sl b.length (u8s b)), (2, .nilS), (5, .addr 5 16 0), (6, .int .i64 ((24 + EL : Nat) : Int)), (7, .sl (listM b).length (txCells (listM b))), (10, .int .i64 (99999 - (r : Int))), (11, .int .i64 i), (12, .str tag)] [(5, ⟨16, 1, [.str (leadM b), .own 100 g 0 acc.length]⟩), (100, ⟨g, 5, rowCells acc⟩)] nx) (fun tail2 => ?_) ?_
              · by_cases hz : z + 3 ≤ 24 + EL
                · have hz' : (z : Int) + 3 ≤ 24 + (EL : Int) := by omega
                  obtain ⟨hta1, hta2⟩ := hta (by omega)
                  have hzb : (z : Int) + 3 ≤ (b.length : Int) := by omega
                  refine ex_run 5 ?_
                  simp (maxSteps := 200000) only [hz', hw3, hw4, hta1, hta2, hio, hui, hzb, push_cast, List.getD_cons_zero, List.getD_cons_succ, List.take_succ_cons, List.take_zero, List.drop_succ_cons, Nat.reduceLT, Nat.reduceLeDiff, Nat.reduceEqDiff, Nat.reduceAdd, Nat.reduceMul, Nat.reduceSub, Int.reduceToNat, Int.reduceLE, Int.reduceLT, Int.reduceEq, Int.reduceAdd, ↓reduceIte, decide_true, decide_false, and_self]
                  refine ⟨by omega, by omega, ?_⟩
                  refine call_intro (RTag_c ta (by omega)) (fun h => by cases h) ?_
                  cases hq : goodTag ta with
                  | true =>
                    have htag := hT1 (by omega) hq
                    simp (maxSteps := 200000) only [hz', hw3, hw4, hta1, hta2, hio, hui, hzb, push_cast, List.getD_cons_zero, List.getD_cons_succ, List.take_succ_cons, List.take_zero, List.drop_succ_cons, Nat.reduceLT, Nat.reduceLeDiff, Nat.reduceEqDiff, Nat.reduceAdd, Nat.reduceMul, Nat.reduceSub, Int.reduceToNat, Int.reduceLE, Int.reduceLT, Int.reduceEq, Int.reduceAdd, ↓reduceIte, decide_true, decide_false, and_self]
                    repeat (first | (refine ⟨by omega, ?_⟩) | (refine ⟨⟨by omega, by omega⟩, ?_⟩))
                    refine run_keep (l' := [(0, .sl b.length (u8s b)), (2, .nilS), (5, .addr 5 16 0), (6, .int .i64 ((24 + EL : Nat) : Int)), (7, .sl (listM b).length (txCells (listM b))), (10, .int .i64 (99999 - (r : Int))), (11, .int .i64 i), (12, .str tag)]) (t' := [(5, ⟨16, 1, [.str (leadM b), .own 100 g 0 acc.length]⟩), (100, ⟨g, 5, rowCells acc⟩)]) (nx' := _) ⟨.refl _, .refl _, .refl _, .refl _, .refl _, .refl _, .refl _, by rw [htag]; exact .refl _, trivial⟩ ⟨⟨_, rfl, rfl, rfl, SubL.refl _⟩, ⟨_, rfl, rfl, rfl, SubL.refl _⟩, trivial⟩ (Nat.le_refl _) ?_
                    exact tail2 _
                  | false =>
                    have htag := hT0 (fun e => by rw [hq] at e; exact absurd e.2 (by simp))
                    simp (maxSteps := 200000) only [hz', hw3, hw4, hta1, hta2, hio, hui, hzb, push_cast, List.getD_cons_zero, List.getD_cons_succ, List.take_succ_cons, List.take_zero, List.drop_succ_cons, Nat.reduceLT, Nat.reduceLeDiff, Nat.reduceEqDiff, Nat.reduceAdd, Nat.reduceMul, Nat.reduceSub, Int.reduceToNat, Int.reduceLE, Int.reduceLT, Int.reduceEq, Int.reduceAdd, ↓reduceIte, decide_true, decide_false, and_self]
                    refine run_keep (l' := [(0, .sl b.length (u8s b)), (2, .nilS), (5, .addr 5 16 0), (6, .int .i64 ((24 + EL : Nat) : Int)), (7, .sl (listM b).length (txCells (listM b))), (10, .int .i64 (99999 - (r : Int))), (11, .int .i64 i), (12, .str tag)]) (t' := [(5, ⟨16, 1, [.str (leadM b), .own 100 g 0 acc.length]⟩), (100, ⟨g, 5, rowCells acc⟩)]) (nx' := _) ⟨.refl _, .refl _, .refl _, .refl _, .refl _, .refl _, .refl _, by rw [htag]; exact .refl _, trivial⟩ ⟨⟨_, rfl, rfl, rfl, SubL.refl _⟩, ⟨_, rfl, rfl, rfl, SubL.refl _⟩, trivial⟩ (Nat.le_refl _) ?_
                    exact tail2 _
                · have hz' : ¬ (z : Int) + 3 ≤ 24 + (EL : Int) := by omega
                  have htag := hT0 (fun e => hz (by omega))
                  refine ex_run 5 ?_
                  simp (maxSteps := 200000) only [hz', hw3, push_cast, List.getD_cons_zero, List.getD_cons_succ, List.take_succ_cons, List.take_zero, List.drop_succ_cons, Nat.reduceLT, Nat.reduceLeDiff, Nat.reduceEqDiff, Nat.reduceAdd, Nat.reduceMul, Nat.reduceSub, Int.reduceToNat, Int.reduceLE, Int.reduceLT, Int.reduceEq, Int.reduceAdd, ↓reduceIte, decide_true, decide_false, and_self]
                  refine run_keep (l' := [(0, .sl b.length (u8s b)), (2, .nilS), (5, .addr 5 16 0), (6, .int .i64 ((24 + EL : Nat) : Int)), (7, .sl (listM b).length (txCells (listM b))), (10, .int .i64 (99999 - (r : Int))), (11, .int .i64 i), (12, .str tag)]) (t' := [(5, ⟨16, 1, [.str (leadM b), .own 100 g 0 acc.length]⟩), (100, ⟨g, 5, rowCells acc⟩)]) (nx' := _) ⟨.refl _, .refl _, .refl _, .refl _, .refl _, .refl _, .refl _, by rw [htag]; exact .refl _, trivial⟩ ⟨⟨_, rfl, rfl, rfl, SubL.refl _⟩, ⟨_, rfl, rfl, rfl, SubL.refl _⟩, trivial⟩ (Nat.le_refl _) ?_
                  exact tail2 _
              · intro nx2
                clear hT0 hT1 hta hio hui h999 hw1 hw2 hw3 hw4
                have hPc := piece_c tag p (by omega) hP.1 (by omega)
                have hRC := RControl_c tag (by omega)
                have hpF : pieceF tag p = if ctl tag = true then ctlM tag p else datM tag p := rfl
                have hpk1 : ctl tag = true → pick tag p = some (pieceF tag p) := fun e => by unfold pick; rw [if_pos e, hpF, if_pos e]
                have hpk2 : ctl tag = false → (pieceF tag p).subs = [] → pick tag p = none := fun e1 e2 => by
                  have e3 : ¬ ctl tag = true := by rw [e1]; simp
                  rw [hpF, if_neg e3] at e2
                  unfold pick; rw [if_neg e3, if_pos e2]
                have hpk3 : ctl tag = false → (pieceF tag p).subs ≠ [] → pick tag p = some (pieceF tag p) := fun e1 e2 => by
                  have e3 : ¬ ctl tag = true := by rw [e1]; simp
                  rw [hpF, if_neg e3] at e2 ⊢
                  unfold pick; rw [if_neg e3, if_neg e2]
                clear hpF
                generalize pieceF tag p = F at *
                have hs1 := subCells_closed F.subs
                have hs2 : closedL (u8s F.text) = true := u8s_closed _
                refine ex_run 3 ?_
                simp (maxSteps := 200000) only [h, h', hg1, hLc, hpos, push_cast, List.getD_cons_zero, List.getD_cons_succ, List.take_succ_cons, List.take_zero, List.drop_succ_cons, Nat.reduceLT, Nat.reduceLeDiff, Nat.reduceEqDiff, Nat.reduceAdd, Nat.reduceMul, Nat.reduceSub, Int.reduceToNat, Int.reduceLE, Int.reduceLT, Int.reduceEq, Int.reduceAdd, ↓reduceIte, decide_true, decide_false, and_self]
                refine call_intro hPc (fun h => by cases h) ?_
                simp (maxSteps := 200000) only [fCells, hs1, hs2, push_cast, List.getD_cons_zero, List.getD_cons_succ, List.take_succ_cons, List.take_zero, List.drop_succ_cons, Nat.reduceLT, Nat.reduceLeDiff, Nat.reduceEqDiff, Nat.reduceAdd, Nat.reduceMul, Nat.reduceSub, Int.reduceToNat, Int.reduceLE, Int.reduceLT, Int.reduceEq, Int.reduceAdd, ↓reduceIte, decide_true, decide_false, and_self]
                refine run_join1 (fun q : {q : Nat × Nat // pick tag p = some F} => mkS [(0, .sl b.length (u8s b)), (2, .nilS), (5, .addr 5 16 0), (6, .int .i64 ((24 + EL : Nat) : Int)), (7, .sl (listM b).length (txCells (listM b))), (10, .int .i64 (99999 - (r : Int))), (11, .int .i64 i), (14, .addr 14 q.1.1 0)] [(5, ⟨16, 1, [.str (leadM b), .own 100 g 0 acc.length]⟩), (100, ⟨g, 5, rowCells acc⟩), (14, ⟨q.1.1, 1, [.str F.tag, .sl F.text.length (u8s F.text), .int .u8 F.i0, .int .u8 F.i1, .sl F.subs.length (subCells F.subs)]⟩)] q.1.2) (fun tail2 => ?_) ?_
                · cases hct : ctl tag with
                  | true =>
                    have hct' : List.isPrefixOf [48, 48] tag = true := hct
                    rw [hct'] at hRC
                    refine ex_run 4 ?_
                    simp (maxSteps := 200000) only [push_cast, List.getD_cons_zero, List.getD_cons_succ, List.take_succ_cons, List.take_zero, List.drop_succ_cons, Nat.reduceLT, Nat.reduceLeDiff, Nat.reduceEqDiff, Nat.reduceAdd, Nat.reduceMul, Nat.reduceSub, Int.reduceToNat, Int.reduceLE, Int.reduceLT, Int.reduceEq, Int.reduceAdd, ↓reduceIte, decide_true, decide_false, and_self]
                    refine call_intro hRC (fun h => by cases h) ?_
                    simp (maxSteps := 200000) only [Bool.not_true, push_cast, List.getD_cons_zero, List.getD_cons_succ, List.take_succ_cons, List.take_zero, List.drop_succ_cons, Nat.reduceLT, Nat.reduceLeDiff, Nat.reduceEqDiff, Nat.reduceAdd, Nat.reduceMul, Nat.reduceSub, Int.reduceToNat, Int.reduceLE, Int.reduceLT, Int.reduceEq, Int.reduceAdd, ↓reduceIte, decide_true, decide_false, and_self]
                    refine run_keep (l' := [(0, .sl b.length (u8s b)), (2, .nilS), (5, .addr 5 16 0), (6, .int .i64 ((24 + EL : Nat) : Int)), (7, .sl (listM b).length (txCells (listM b))), (10, .int .i64 (99999 - (r : Int))), (11, .int .i64 i), (14, .addr 14 _ 0)]) (t' := [(5, ⟨16, 1, [.str (leadM b), .own 100 g 0 acc.length]⟩), (100, ⟨g, 5, rowCells acc⟩), (14, ⟨_, 1, [.str F.tag, .sl F.text.length (u8s F.text), .int .u8 F.i0, .int .u8 F.i1, .sl F.subs.length (subCells F.subs)]⟩)]) (nx' := _) ⟨.refl _, .refl _, .refl _, .refl _, .refl _, .refl _, .refl _, .refl _, trivial⟩ ⟨⟨_, rfl, rfl, rfl, SubL.refl _⟩, ⟨_, rfl, rfl, rfl, SubL.refl _⟩, ⟨_, rfl, rfl, rfl, SubL.refl _⟩, trivial⟩ (Nat.le_refl _) ?_
                    exact tail2 ⟨(_, _), hpk1 hct⟩
                  | false =>
                    have hct' : List.isPrefixOf [48, 48] tag = false := hct
                    rw [hct'] at hRC
                    by_cases hs0 : F.subs = []
                    · have hpk := hpk2 hct hs0
                      have hs0' : F.subs.length = 0 := by rw [hs0]; rfl
                      have hfit2 := hfit
                      rw [hpd, fitF_cons, hpk] at hfit2
                      simp only at hfit2
                      refine ex_run 30 ?_
                      simp (maxSteps := 200000) only [push_cast, List.getD_cons_zero, List.getD_cons_succ, List.take_succ_cons, List.take_zero, List.drop_succ_cons, Nat.reduceLT, Nat.reduceLeDiff, Nat.reduceEqDiff, Nat.reduceAdd, Nat.reduceMul, Nat.reduceSub, Int.reduceToNat, Int.reduceLE, Int.reduceLT, Int.reduceEq, Int.reduceAdd, ↓reduceIte, decide_true, decide_false, and_self]
                      refine call_intro hRC (fun h => by cases h) ?_
                      simp (maxSteps := 200000) only [Bool.not_false, hs0', hw, push_cast, List.getD_cons_zero, List.getD_cons_succ, List.take_succ_cons, List.take_zero, List.drop_succ_cons, Nat.reduceLT, Nat.reduceLeDiff, Nat.reduceEqDiff, Nat.reduceAdd, Nat.reduceMul, Nat.reduceSub, Int.reduceToNat, Int.reduceLE, Int.reduceLT, Int.reduceEq, Int.reduceAdd, ↓reduceIte, decide_true, decide_false, and_self]
                      refine run_back_le (le_mk (l' := [(0, .sl b.length (u8s b)), (2, .nilS), (5, .addr 5 16 0), (6, .int .i64 ((24 + EL : Nat) : Int)), (7, .sl (listM b).length (txCells (listM b))), (10, .int .i64 (99999 - (r : Int))), (11, .int .i64 ((i + 1 : Nat) : Int))]) (t' := [(5, ⟨16, 1, [.str (leadM b), .own 100 g 0 acc.length]⟩), (100, ⟨g, 5, rowCells acc⟩)]) (nx' := _) ⟨.refl _, .refl _, .refl _, .refl _, .refl _, .refl _, .of_eq (congrArg (AV.int .i64) (by omega)), trivial⟩ ⟨⟨_, rfl, rfl, rfl, SubL.refl _⟩, ⟨_, rfl, rfl, rfl, SubL.refl _⟩, trivial⟩ (Nat.le_refl _)) ?_
                      exact ⟨(listM b).length - (i + 1), by omega, i + 1, r, g, _, acc, by omega, hr, hfit2, by omega, rfl, rfl⟩
                    · have hs0' : ¬ (F.subs.length : Int) = 0 := fun e => hs0 (List.eq_nil_of_length_eq_zero (by omega))
                      refine ex_run 4 ?_
                      simp (maxSteps := 200000) only [push_cast, List.getD_cons_zero, List.getD_cons_succ, List.take_succ_cons, List.take_zero, List.drop_succ_cons, Nat.reduceLT, Nat.reduceLeDiff, Nat.reduceEqDiff, Nat.reduceAdd, Nat.reduceMul, Nat.reduceSub, Int.reduceToNat, Int.reduceLE, Int.reduceLT, Int.reduceEq, Int.reduceAdd, ↓reduceIte, decide_true, decide_false, and_self]
                      refine call_intro hRC (fun h => by cases h) ?_
                      simp (maxSteps := 200000) only [Bool.not_false, hs0', push_cast, List.getD_cons_zero, List.getD_cons_succ, List.take_succ_cons, List.take_zero, List.drop_succ_cons, Nat.reduceLT, Nat.reduceLeDiff, Nat.reduceEqDiff, Nat.reduceAdd, Nat.reduceMul, Nat.reduceSub, Int.reduceToNat, Int.reduceLE, Int.reduceLT, Int.reduceEq, Int.reduceAdd, ↓reduceIte, decide_true, decide_false, and_self]
                      refine run_keep (l' := [(0, .sl b.length (u8s b)), (2, .nilS), (5, .addr 5 16 0), (6, .int .i64 ((24 + EL : Nat) : Int)), (7, .sl (listM b).length (txCells (listM b))), (10, .int .i64 (99999 - (r : Int))), (11, .int .i64 i), (14, .addr 14 _ 0)]) (t' := [(5, ⟨16, 1, [.str (leadM b), .own 100 g 0 acc.length]⟩), (100, ⟨g, 5, rowCells acc⟩), (14, ⟨_, 1, [.str F.tag, .sl F.text.length (u8s F.text), .int .u8 F.i0, .int .u8 F.i1, .sl F.subs.length (subCells F.subs)]⟩)]) (nx' := _) ⟨.refl _, .refl _, .refl _, .refl _, .refl _, .refl _, .refl _, .refl _, trivial⟩ ⟨⟨_, rfl, rfl, rfl, SubL.refl _⟩, ⟨_, rfl, rfl, rfl, SubL.refl _⟩, ⟨_, rfl, rfl, rfl, SubL.refl _⟩, trivial⟩ (Nat.le_refl _) ?_
                      exact tail2 ⟨(_, _), hpk3 hct hs0⟩
                · rintro ⟨⟨g14, nx3⟩, hpk⟩
                  obtain ⟨k1, k2, k3, k4⟩ := pick_ok htg hP hpk
                  have hBy := rbytes_c F (by rw [k2]; omega) (by omega)
                  have hfit2 := hfit
                  rw [hpd, fitF_cons, hpk] at hfit2
                  simp only at hfit2
                  have hsz2 := fitF_size 99973 (pairsM b)
                  have w1 : IntKind.i64.wrap (99999 - (r : Int) + 12) = 99999 - (r : Int) + 12 := wrap_i64 (by omega)
                  have w2 : IntKind.i64.wrap (99999 - (r : Int) + 12 + ((fbytes F).length : Int)) = 99999 - (r : Int) + 12 + ((fbytes F).length : Int) := wrap_i64 (by omega)
                  have w3 : IntKind.i64.wrap (99999 - (r : Int) + 12 + ((fbytes F).length : Int) + 1) = 99999 - (r : Int) + 12 + ((fbytes F).length : Int) + 1 := wrap_i64 (by omega)
                  by_cases hrm : r < 13 + (fbytes F).length
                  · have hrm' : (99999 : Int) < 99999 - (r : Int) + 12 + ((fbytes F).length : Int) + 1 := by omega
                    rw [if_pos hrm, List.append_nil] at hfit2
                    have hF : (recM b).fields = acc := hfit2
                    refine ex_run 7 ?_
                    simp (maxSteps := 200000) only [w1, hs1, hs2, push_cast, List.getD_cons_zero, List.getD_cons_succ, List.take_succ_cons, List.take_zero, List.drop_succ_cons, Nat.reduceLT, Nat.reduceLeDiff, Nat.reduceEqDiff, Nat.reduceAdd, Nat.reduceMul, Nat.reduceSub, Int.reduceToNat, Int.reduceLE, Int.reduceLT, Int.reduceEq, Int.reduceAdd, ↓reduceIte, decide_true, decide_false, and_self]
                    refine call_intro hBy (fun _ => ⟨rfl, fun T0 e => by cases e; exact u8s_noSl _⟩) ?_
                    simp (maxSteps := 200000) only [w1, w2, w3, hrm', hs1, hs2, push_cast, List.getD_cons_zero, List.getD_cons_succ, List.take_succ_cons, List.take_zero, List.drop_succ_cons, Nat.reduceLT, Nat.reduceLeDiff, Nat.reduceEqDiff, Nat.reduceAdd, Nat.reduceMul, Nat.reduceSub, Int.reduceToNat, Int.reduceLE, Int.reduceLT, Int.reduceEq, Int.reduceAdd, ↓reduceIte, decide_true, decide_false, and_self]
                    refine run_keep (l' := [(5, .addr 5 16 0)]) (t' := [(5, ⟨16, 1, [.str (leadM b), .own 100 g 0 (recM b).fields.length]⟩), (100, ⟨g, 5, rowCells (recM b).fields⟩)]) (nx' := _) ⟨.refl _, trivial⟩ ⟨⟨_, rfl, rfl, rfl, by rw [hF]; exact SubL.refl _⟩, ⟨_, rfl, rfl, rfl, by rw [hF]; exact SubL.refl _⟩, trivial⟩ (Nat.le_refl _) ?_
                    exact tail (g, _)
                  · have hrm' : ¬ (99999 : Int) < 99999 - (r : Int) + 12 + ((fbytes F).length : Int) + 1 := by omega
                    rw [if_neg hrm, List.append_cons] at hfit2
                    refine ex_run 60 ?_
                    simp (maxSteps := 200000) only [w1, hs1, hs2, push_cast, List.getD_cons_zero, List.getD_cons_succ, List.take_succ_cons, List.take_zero, List.drop_succ_cons, Nat.reduceLT, Nat.reduceLeDiff, Nat.reduceEqDiff, Nat.reduceAdd, Nat.reduceMul, Nat.reduceSub, Int.reduceToNat, Int.reduceLE, Int.reduceLT, Int.reduceEq, Int.reduceAdd, ↓reduceIte, decide_true, decide_false, and_self]
                    refine call_intro hBy (fun _ => ⟨rfl, fun T0 e => by cases e; exact u8s_noSl _⟩) ?_
                    simp (maxSteps := 200000) only [w1, w2, w3, hrm', hs1, hs2, hw, hal, push_cast, List.getD_cons_zero, List.getD_cons_succ, List.take_succ_cons, List.take_zero, List.drop_succ_cons, Nat.reduceLT, Nat.reduceLeDiff, Nat.reduceEqDiff, Nat.reduceAdd, Nat.reduceMul, Nat.reduceSub, Int.reduceToNat, Int.reduceLE, Int.reduceLT, Int.reduceEq, Int.reduceAdd, ↓reduceIte, decide_true, decide_false, and_self]
                    have hal2 : acc.length ≤ (fitF 99973 (pairsM b)).length := by rw [hfit2, List.length_append, List.length_append]; omega
                    refine ⟨⟨by omega, by omega⟩, ?_⟩
                    refine run_back_le (le_mk (l' := [(0, .sl b.length (u8s b)), (2, .nilS), (5, .addr 5 16 0), (6, .int .i64 ((24 + EL : Nat) : Int)), (7, .sl (listM b).length (txCells (listM b))), (10, .int .i64 (99999 - ((r - (13 + (fbytes F).length) : Nat) : Int))), (11, .int .i64 ((i + 1 : Nat) : Int))]) (t' := [(5, ⟨16, 1, [.str (leadM b), .own 100 _ 0 (acc ++ [F]).length]⟩), (100, ⟨_, 5, rowCells (acc ++ [F])⟩)]) (nx' := _) ⟨.refl _, .refl _, .refl _, .refl _, .refl _, .of_eq (congrArg (AV.int .i64) (by omega)), .of_eq (congrArg (AV.int .i64) (by omega)), trivial⟩ ⟨⟨_, rfl, rfl, rfl, ⟨.refl _, .of_eq (congrArg (AV.own 100 _ 0) (by simp)), trivial⟩⟩, ⟨_, rfl, rfl, rfl, by rw [rowCells_snoc']; exact SubL.refl _⟩, trivial⟩ (Nat.le_refl _)) ?_
                    exact ⟨(listM b).length - (i + 1), by omega, i + 1, r - (13 + (fbytes F).length), _, _, acc ++ [F], by omega, by omega, hfit2, by rw [List.length_append]; simp; omega, rfl, rfl⟩
            · have h' : ¬ (i : Int) < ((listM b).length : Int) := by omega
              have hF : (recM b).fields = acc := by
                show fitF 99973 (pairsM b) = acc
                rw [hfit, List.drop_of_length_le (by rw [pairsM_len]; omega)]; unfold fitF; exact List.append_nil _
              refine ex_run 5 ?_
              simp (maxSteps := 200000) only [h, h', push_cast, List.getD_cons_zero, List.getD_cons_succ, List.take_succ_cons, List.take_zero, List.drop_succ_cons, Nat.reduceLT, Nat.reduceLeDiff, Nat.reduceEqDiff, Nat.reduceAdd, Nat.reduceMul, Nat.reduceSub, Int.reduceToNat, Int.reduceLE, Int.reduceLT, Int.reduceEq, Int.reduceAdd, ↓reduceIte, decide_true, decide_false, and_self]
              refine run_keep (l' := [(5, .addr 5 16 0)]) (t' := [(5, ⟨16, 1, [.str (leadM b), .own 100 g 0 (recM b).fields.length]⟩), (100, ⟨g, 5, rowCells (recM b).fields⟩)]) (nx' := _) ⟨.refl _, trivial⟩ ⟨⟨_, rfl, rfl, rfl, by rw [hF]; exact SubL.refl _⟩, ⟨_, rfl, rfl, rfl, by rw [hF]; exact SubL.refl _⟩, trivial⟩ (Nat.le_refl _) ?_
              exact tail (g, _)
          · rintro ⟨g, nx⟩
            have hrl := rowCells_length (recM b).fields
            have hrt : (rowCells (recM b).fields).take ((recM b).fields.length * 5) = rowCells (recM b).fields := List.take_of_length_le (by omega)
            have hrc : closedL (rowCells (recM b).fields) = true := rowCells_closed _
            refine ex_run 60 ?_
            simp (maxSteps := 200000) only [hrt, hrc, push_cast, List.getD_cons_zero, List.getD_cons_succ, List.take_succ_cons, List.take_zero, List.drop_succ_cons, Nat.reduceLT, Nat.reduceLeDiff, Nat.reduceEqDiff, Nat.reduceAdd, Nat.reduceMul, Nat.reduceSub, Int.reduceToNat, Int.reduceLE, Int.reduceLT, Int.reduceEq, Int.reduceAdd, ↓reduceIte, decide_true, decide_false, and_self]
            refine call_intro (rWrite_ok (recM_RB hl) (recM_write hl)) (fun _ => ⟨rfl, fun T0 e => by cases e; exact u8s_noSl _⟩) ?_
            generalize wbytes (recM b) = w
            have hwt : (u8s w).take w.length = u8s w := List.take_of_length_le (by rw [u8s_length]; exact Nat.le_refl _)
            simp (maxSteps := 200000) only [flt, push_cast, List.getD_cons_zero, List.getD_cons_succ, List.take_succ_cons, List.take_zero, List.drop_succ_cons, Nat.reduceLT, Nat.reduceLeDiff, Nat.reduceEqDiff, Nat.reduceAdd, Nat.reduceMul, Nat.reduceSub, Int.reduceToNat, Int.reduceLE, Int.reduceLT, Int.reduceEq, Int.reduceAdd, ↓reduceIte, decide_true, decide_false, and_self]
            exact ⟨_, [.sl w.length (u8s w)], rfl, by simp [outA, outV, outC, mkS_env, mkS_tk, lkF, lkG, u8s_closed, hwt, AV.closed, closedL], .refl _, rfl⟩
end Go.Proofs.YteapibifebnboaaDoor
