/- ref19.Write, where it succeeds -/
import Derived.Test.YteapibifebnboaaDoorMndFx
import Derived.Test.YteapibifebnboaaDoorMndC
set_option linter.unusedVariables false
set_option linter.unusedSimpArgs false
namespace Go.Proofs.YteapibifebnboaaDoor
open Go Go.Eng
theorem Fixed4 (n : Int) (h0 : 0 ≤ n) (h : n ≤ 9999) : ACall Tryd.prog 53 [.int .i64 n, .int .i64 4] (.str (fixedL 4 n)) none :=
  Fixed_c 3 n (by decide) h0 (by have : (10 : Int) ^ (3 + 1) = 10000 := by decide
                                 omega)
theorem Fixed5 (n : Int) (h0 : 0 ≤ n) (h : n ≤ 99999) : ACall Tryd.prog 53 [.int .i64 n, .int .i64 5] (.str (fixedL 5 n)) none :=
  Fixed_c 4 n (by decide) h0 (by have : (10 : Int) ^ (4 + 1) = 100000 := by decide
                                 omega)
theorem take_snocF {L : List FV} {i : Nat} (h : i < L.length) : L.take (i + 1) = L.take i ++ [L[i]] := by rw [List.take_add_one, List.getElem?_eq_getElem h]; rfl
theorem pbytes_len' : ∀ (L : List FV) (st : Int), (∀ f ∈ L, f.tag.length = 3) → (pbytes (entsOf L st)).length = 12 * L.length
  | [], _, _ => rfl
  | f :: L, st, h => by
    have ih := pbytes_len' L (st + (fbytes f).length + 1) fun g hg => h g (List.mem_cons_of_mem _ hg)
    have h3 := h f (List.mem_cons_self ..)
    rw [entsOf]
    unfold pbytes at *
    rw [List.flatMap_cons, List.length_append, ih]
    simp [ebytes, fixedL_length, h3]; omega
set_option maxRecDepth 100000 in
set_option maxHeartbeats 8000000 in
theorem rWrite_ok {r : RV} (hB : RB r) {w : List Int} (h : rwrite r = .inr w) : ACall Tryd.prog 28 [.agg (rCells r)] (.tup [.own 0 0 0 w.length, flt 0 0]) (some ⟨0, 1, u8s w⟩) := by
  have hs : soundL r.lead = true := by
    cases hs : soundL r.lead with
    | true => rfl
    | false => unfold rwrite at h; rw [hs] at h; cases h
  unfold rwrite at h
  rw [if_neg (by rw [hs]; simp)] at h
  split at h
  · cases h
  rename_i hbad
  split at h
  · cases h
  rename_i h99
  have hbw : wbytes r = w := by cases h; rfl
  have hall := badFld_all hbad
  have hwl : wlen r = wbase r + (dataOf r.fields).length + 1 := rfl
  have hwb : wbase r = 25 + 12 * (r.fields.length : Int) := rfl
  have hll := soundL_len hs
  have hS := rSound_c r.lead (by omega)
  rw [hs] at hS
  have hrc : closedL (rowCells r.fields) = true := rowCells_closed _
  have hrl := rowCells_length r.fields
  have hem : bytesOf { data := #[] } = [] := rfl
  obtain ⟨lead, L⟩ := r
  simp only at *
  refine acall_intro (some 95) Tryd.func28 rfl (by kernel_rfl) (by simp [Tryd.f28]) ?_
  refine ex_run 60 ?_
  simp (maxSteps := 200000) only [Tryd.f28, rCells, hem, push_cast, List.getD_cons_zero, List.getD_cons_succ, List.take_succ_cons, List.take_zero, List.drop_succ_cons, Nat.reduceLT, Nat.reduceLeDiff, Nat.reduceEqDiff, Nat.reduceAdd, Nat.reduceMul, Nat.reduceSub, Int.reduceToNat, Int.reduceLE, Int.reduceLT, Int.reduceEq, Int.reduceAdd, ↓reduceIte, decide_true, decide_false, and_self]
  refine call_intro hS (fun h => by cases h) ?_
  simp (maxSteps := 200000) only [Bool.not_true, push_cast, List.getD_cons_zero, List.getD_cons_succ, List.take_succ_cons, List.take_zero, List.drop_succ_cons, Nat.reduceLT, Nat.reduceLeDiff, Nat.reduceEqDiff, Nat.reduceAdd, Nat.reduceMul, Nat.reduceSub, Int.reduceToNat, Int.reduceLE, Int.reduceLT, Int.reduceEq, Int.reduceAdd, ↓reduceIte, decide_true, decide_false, and_self]
  refine run_keep (l' := [(1, .addr 1 0 0), (2, .nilS), (3, .addr 3 2 0), (4, .str (pbytes (entsOf (L.take 0) 0))), (5, .own 16 _ 0 (dataOf (L.take 0)).length), (6, .int .i64 0)]) (t' := [(1, ⟨0, 1, [.str lead, .sl L.length (rowCells L)]⟩), (3, ⟨2, 1, [.int .i64 0, .int .i64 0]⟩), (16, ⟨_, 1, u8s (dataOf (L.take 0))⟩)]) (nx' := _) ⟨.refl _, .refl _, .refl _, .refl _, .refl _, .refl _, trivial⟩ ⟨⟨_, rfl, rfl, rfl, SubL.refl _⟩, ⟨_, rfl, rfl, rfl, SubL.refl _⟩, ⟨_, rfl, rfl, rfl, SubL.refl _⟩, trivial⟩ (Nat.le_refl _) ?_
  refine run_loop (fun n s => ∃ (i g nx : Nat), i ≤ L.length ∧ n = L.length - i ∧ s = mkS [(1, .addr 1 0 0), (2, .nilS), (3, .addr 3 2 0), (4, .str (pbytes (entsOf (L.take i) 0))), (5, .own 16 g 0 (dataOf (L.take i)).length), (6, .int .i64 i)] [(1, ⟨0, 1, [.str lead, .sl L.length (rowCells L)]⟩), (3, ⟨2, 1, [.int .i64 0, .int .i64 0]⟩), (16, ⟨g, 1, u8s (dataOf (L.take i))⟩)] nx) _ ⟨0, _, _, Nat.zero_le _, rfl, rfl⟩ ?_
  rintro n s ⟨i, g, nx, hi, rfl, rfl⟩
  have hdl := dataOf_take_le L i
  have htg : ∀ f ∈ L, f.tag.length = 3 := fun f hf => goodTag_len (goodF_tag (hall f hf).1)
  have hpl := pbytes_len' (L.take i) 0 fun f hf => htg f (List.mem_of_mem_take hf)
  have hti : (L.take i).length = i := by rw [List.length_take]; omega
  rw [hti] at hpl
  by_cases hil : i < L.length
  · have hil' : (i : Int) < (L.length : Int) := by omega
    have hw1 : IntKind.i64.wrap ((i : Int) + 1) = ((i + 1 : Nat) : Int) := by rw [wrap_i64 (by omega)]; omega
    have hrow := rowCells_row L i hil
    have hget : (rowCells L).getD (i * 5) .dead = .str L[i].tag := rowCells_get L i 0 hil (by decide)
    have l0 : i * 5 + 5 ≤ L.length * 5 := by omega
    have l1 : i * 5 < L.length * 5 := by omega
    have hpos : 0 < L.length * 5 := by omega
    have hm := List.getElem_mem hil
    obtain ⟨b1, b2, b3, b4, b5⟩ := hB.fld _ hm
    obtain ⟨g1, g2⟩ := hall _ hm
    have h3 := htg _ hm
    have htk := take_snocF hil
    have hes := entsOf_snoc (L.take i) L[i] 0
    have hds := dataOf_snoc (L.take i) L[i]
    have hdl2 := dataOf_take_le L (i + 1)
    have hfc := fCells_closed L[i]
    have hfcm : List.map cl (fCells L[i]) = fCells L[i] := rfl
    have hBy := rbytes_c L[i] (by omega) (by omega)
    have hGd := good_c L[i] (by omega) (by omega) (fun s hs => by have := b4 s hs; omega) (by omega) (by omega)
    rw [g1] at hGd
    have hF4 := Fixed4 (((fbytes L[i]).length : Int) + 1) (by omega) (by omega)
    have hF5 := Fixed5 ((dataOf (L.take i)).length : Int) (by omega) (by omega)
    rw [← htk] at hes hds
    generalize L[i] = f at *
    have hbu : u8s (fbytes f) ++ [.int .u8 30] = u8s (fdata f) := by simp [u8s, fdata]
    have hbl : (fdata f).length = (fbytes f).length + 1 := by simp [fdata]
    have hX : pbytes (entsOf (List.take i L) 0) ++ f.tag ++ fixedL 4 (((fbytes f).length : Int) + 1) ++ fixedL 5 ((dataOf (L.take i)).length : Int) = pbytes (entsOf (L.take (i + 1)) 0) := by
      rw [hes]; unfold pbytes; rw [List.flatMap_append]; simp [ebytes]
    have hdd : (dataOf (L.take i)).length + ((fbytes f).length + 1) = (dataOf (L.take (i + 1))).length := by rw [hds, List.length_append, hbl]
    have hft : List.take ((fbytes f).length + 1) (fdata f) = fdata f := List.take_of_length_le (by omega)
    have hud : u8s (dataOf (L.take i)) ++ u8s (fdata f) = u8s (dataOf (L.take (i + 1))) := by rw [hds, u8s_append]
    have h9 : ¬ (9999 : Int) < ((fbytes f).length : Int) + 1 := by omega
    have hl4 := fixedL_length 4 (((fbytes f).length : Int) + 1)
    have hl5 := fixedL_length 5 ((dataOf (L.take i)).length : Int)
    refine ex_run 60 ?_
    simp (maxSteps := 200000) only [hil, hil', hrow, hget, hrl, l0, l1, hpos, hfc, hfcm, push_cast, List.getD_cons_zero, List.getD_cons_succ, List.take_succ_cons, List.take_zero, List.drop_succ_cons, Nat.reduceLT, Nat.reduceLeDiff, Nat.reduceEqDiff, Nat.reduceAdd, Nat.reduceMul, Nat.reduceSub, Int.reduceToNat, Int.reduceLE, Int.reduceLT, Int.reduceEq, Int.reduceAdd, ↓reduceIte, decide_true, decide_false, and_self]
    refine call_intro hBy (fun _ => ⟨rfl, fun T0 e => by cases e; exact u8s_noSl _⟩) ?_
    simp (maxSteps := 200000) only [hil, hil', hrow, hget, hrl, l0, l1, hpos, hfc, hfcm, hbu, u8s_length, push_cast, List.getD_cons_zero, List.getD_cons_succ, List.take_succ_cons, List.take_zero, List.drop_succ_cons, Nat.reduceLT, Nat.reduceLeDiff, Nat.reduceEqDiff, Nat.reduceAdd, Nat.reduceMul, Nat.reduceSub, Int.reduceToNat, Int.reduceLE, Int.reduceLT, Int.reduceEq, Int.reduceAdd, ↓reduceIte, decide_true, decide_false, and_self]
    refine ⟨⟨by omega, by omega⟩, ?_⟩
    refine call_intro hGd (fun h => by cases h) ?_
    simp (maxSteps := 200000) only [hil, hil', hrow, hget, hrl, l0, l1, hpos, hfc, hfcm, hbu, h9, Bool.not_true, u8s_length, h3, hpl, push_cast, List.getD_cons_zero, List.getD_cons_succ, List.take_succ_cons, List.take_zero, List.drop_succ_cons, Nat.reduceLT, Nat.reduceLeDiff, Nat.reduceEqDiff, Nat.reduceAdd, Nat.reduceMul, Nat.reduceSub, Int.reduceToNat, Int.reduceLE, Int.reduceLT, Int.reduceEq, Int.reduceAdd, ↓reduceIte, decide_true, decide_false, and_self]
    refine ⟨by kernel_rfl, by omega, ?_⟩
    refine call_introF hF4 (fun h => by cases h) ?_
    simp (maxSteps := 200000) only [hil, hil', hrow, hget, hrl, l0, l1, hpos, hfc, hfcm, hbu, h9, Bool.not_true, u8s_length, h3, hpl, hl4, List.length_append, push_cast, List.getD_cons_zero, List.getD_cons_succ, List.take_succ_cons, List.take_zero, List.drop_succ_cons, Nat.reduceLT, Nat.reduceLeDiff, Nat.reduceEqDiff, Nat.reduceAdd, Nat.reduceMul, Nat.reduceSub, Int.reduceToNat, Int.reduceLE, Int.reduceLT, Int.reduceEq, Int.reduceAdd, ↓reduceIte, decide_true, decide_false, and_self]
    refine ⟨by omega, ?_⟩
    refine call_introF hF5 (fun h => by cases h) ?_
    simp (maxSteps := 200000) only [hil, hil', hrow, hget, hrl, l0, l1, hpos, hfc, hfcm, hbu, h9, Bool.not_true, u8s_length, h3, hpl, hl4, hl5, List.length_append, hud, hft, hbl, hdd, hX, hw1, ← u8s_append, ← hds, push_cast, List.getD_cons_zero, List.getD_cons_succ, List.take_succ_cons, List.take_zero, List.drop_succ_cons, Nat.reduceLT, Nat.reduceLeDiff, Nat.reduceEqDiff, Nat.reduceAdd, Nat.reduceMul, Nat.reduceSub, Int.reduceToNat, Int.reduceLE, Int.reduceLT, Int.reduceEq, Int.reduceAdd, ↓reduceIte, decide_true, decide_false, and_self]
    refine ⟨by omega, okTr_of (by kernel_rfl), ?_⟩
    repeat (first | (refine ⟨by omega, ?_⟩) | (refine ⟨⟨by omega, by omega⟩, ?_⟩))
    refine run_back_le (le_mk (l' := [(1, .addr 1 0 0), (2, .nilS), (3, .addr 3 2 0), (4, .str (pbytes (entsOf (L.take (i + 1)) 0))), (5, .own 16 _ 0 (dataOf (L.take (i + 1))).length), (6, .int .i64 ((i + 1 : Nat) : Int))]) (t' := [(1, ⟨0, 1, [.str lead, .sl L.length (rowCells L)]⟩), (3, ⟨2, 1, [.int .i64 0, .int .i64 0]⟩), (16, ⟨_, 1, u8s (dataOf (L.take (i + 1)))⟩)]) (nx' := _) ⟨.refl _, .refl _, .refl _, .refl _, .refl _, .of_eq (congrArg (AV.int .i64) (by omega)), trivial⟩ ⟨⟨_, rfl, rfl, rfl, SubL.refl _⟩, ⟨_, rfl, rfl, rfl, SubL.refl _⟩, ⟨_, rfl, rfl, rfl, SubL.refl _⟩, trivial⟩ (Nat.le_refl _)) ?_
    exact ⟨L.length - (i + 1), by omega, i + 1, _, _, by omega, rfl, rfl⟩
  · have hil' : ¬ (i : Int) < (L.length : Int) := by omega
    have hie : i = L.length := by omega
    have hLL : L.take i = L := by rw [hie]; exact List.take_length
    rw [hLL] at hpl hdl ⊢
    have hw1 : IntKind.i64.wrap (24 + 12 * (i : Int)) = 24 + 12 * (i : Int) := wrap_i64 (by omega)
    have hw2 : IntKind.i64.wrap (24 + 12 * (i : Int) + 1) = wbase ⟨lead, L⟩ := by rw [wrap_i64 (by omega)]; omega
    have hw3 : IntKind.i64.wrap (wbase ⟨lead, L⟩ + ((dataOf L).length : Int)) = wbase ⟨lead, L⟩ + ((dataOf L).length : Int) := wrap_i64 (by omega)
    have hw4 : IntKind.i64.wrap (wbase ⟨lead, L⟩ + ((dataOf L).length : Int) + 1) = wlen ⟨lead, L⟩ := by rw [wrap_i64 (by omega)]; omega
    have hF1 := Fixed5 (wlen ⟨lead, L⟩) (by omega) (by omega)
    have hF2 := Fixed5 (wbase ⟨lead, L⟩) (by omega) (by omega)
    have hl1 := fixedL_length 5 (wlen ⟨lead, L⟩)
    have hl2 := fixedL_length 5 (wbase ⟨lead, L⟩)
    have h24 : (12 : Int) ≤ (lead.length : Int) := by omega
    have h17 : (17 : Int) ≤ (lead.length : Int) := by omega
    have hpp : (pbytes (entsOf L 0)).length = 12 * i := hpl
    refine ex_run 60 ?_
    simp (maxSteps := 200000) only [hil', hpl, hw1, hw2, hw3, hw4, h99, push_cast, List.getD_cons_zero, List.getD_cons_succ, List.take_succ_cons, List.take_zero, List.drop_succ_cons, Nat.reduceLT, Nat.reduceLeDiff, Nat.reduceEqDiff, Nat.reduceAdd, Nat.reduceMul, Nat.reduceSub, Int.reduceToNat, Int.reduceLE, Int.reduceLT, Int.reduceEq, Int.reduceAdd, ↓reduceIte, decide_true, decide_false, and_self]
    refine ⟨by kernel_rfl, ?_⟩
    refine call_introF hF1 (fun h => by cases h) ?_
    simp (maxSteps := 200000) only [hpl, hw1, hw2, hw3, hw4, h99, hll, List.length_append, List.length_take, List.length_drop, hl1, hl2, push_cast, List.getD_cons_zero, List.getD_cons_succ, List.take_succ_cons, List.take_zero, List.drop_succ_cons, Nat.reduceLT, Nat.reduceLeDiff, Nat.reduceEqDiff, Nat.reduceAdd, Nat.reduceMul, Nat.reduceSub, Int.reduceToNat, Int.reduceLE, Int.reduceLT, Int.reduceEq, Int.reduceAdd, ↓reduceIte, decide_true, decide_false, and_self]
    refine ⟨by decide, ?_⟩
    refine call_introF hF2 (fun h => by cases h) ?_
    simp (maxSteps := 200000) only [hpl, hw1, hw2, hw3, hw4, h99, hll, List.length_append, List.length_take, List.length_drop, hl1, hl2, push_cast, List.getD_cons_zero, List.getD_cons_succ, List.take_succ_cons, List.take_zero, List.drop_succ_cons, Nat.reduceLT, Nat.reduceLeDiff, Nat.reduceEqDiff, Nat.reduceAdd, Nat.reduceMul, Nat.reduceSub, Int.reduceToNat, Int.reduceLE, Int.reduceLT, Int.reduceEq, Int.reduceAdd, ↓reduceIte, decide_true, decide_false, and_self]
    refine ⟨by omega, by omega, by omega, okTr_of (by kernel_rfl), by omega, ⟨by omega, by omega⟩, by omega, ⟨by omega, by omega⟩, by omega, ⟨by omega, by omega, by omega⟩, ?_⟩
    have hT : List.take 24 lead = lead := List.take_of_length_le (by omega)
    have hTd : List.take (dataOf L).length (dataOf L) = dataOf L := List.take_length
    have hD : List.drop 5 (List.take 12 lead) = (lead.drop 5).take 7 := by rw [List.drop_take]
    have hW : u8s (fixedL 5 (wlen ⟨lead, L⟩) ++ List.drop 5 (List.take 12 lead) ++ fixedL 5 (wbase ⟨lead, L⟩) ++ List.drop 17 (List.take 24 lead) ++ pbytes (entsOf L 0)) ++ [.int .u8 30] ++ u8s (List.take (dataOf L).length (dataOf L)) ++ [.int .u8 29] = u8s w := by
      rw [← hbw, hT, hTd, hD]
      show _ = u8s (leadB lead (wlen ⟨lead, L⟩) (wbase ⟨lead, L⟩) ++ pbytes (entsOf L 0) ++ [30] ++ dataOf L ++ [29])
      unfold leadB
      simp [u8s]
    have hN : 5 + (min 12 24 - 5) + 5 + (min 24 24 - 17) + 12 * i + 1 + (dataOf L).length + 1 = w.length := by
      have := congrArg List.length hW
      simp only [List.length_append, u8s_length, List.length_cons, List.length_nil, List.length_take, List.length_drop, hl1, hl2, hpl, hll] at this
      omega
    have hcl := u8s_closed w
    have htw : (u8s w).take w.length = u8s w := List.take_of_length_le (by rw [u8s_length]; exact Nat.le_refl _)
    rw [hW, hN]
    exact ⟨[.own 95 _ 0 w.length, .agg [.int .i64 0, .int .i64 0]], [.own 0 0 0 w.length, .agg [.int .i64 0, .int .i64 0]], rfl, by simp [outA, outV, outL, outC, mkS_env, mkS_tk, lkF, lkG, AV.closed], .refl _, ⟨_, rfl, u8s_closed _, rfl⟩⟩
end Go.Proofs.YteapibifebnboaaDoor
