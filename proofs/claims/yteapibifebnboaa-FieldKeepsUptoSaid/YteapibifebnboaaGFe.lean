/- GFe: the texts FldV, FldW, FldX, FldY, one behind the other. -/
import Derived.Test.YteapibifebnboaaGFd
set_option linter.unusedVariables false
set_option linter.unusedSimpArgs false

/- field.Texts, ref19.Texts -/
set_option linter.unusedVariables false
set_option linter.unusedSimpArgs false
namespace Go.Proofs.Yteapibifebnboaa
open Go Go.Eng
def tx1 (t : List Int) : AV := .sl t.length (u8s t)
def txCells (T : List (List Int)) : List AV := T.map tx1
theorem txCells_length (T : List (List Int)) : (txCells T).length = T.length := by simp [txCells]
theorem txCells_closed (T : List (List Int)) : closedL (txCells T) = true := by
  induction T with
  | nil => rfl
  | cons t T ih =>
    show closedL (tx1 t :: txCells T) = true
    simp only [closedL, tx1, AV.closed, u8s_closed, Bool.true_and]
    exact ih
theorem txCells_get (T : List (List Int)) (i : Nat) (hi : i < T.length) : (txCells T).getD i .dead = .sl T[i].length (u8s T[i]) := by
  rw [List.getD_eq_getElem?_getD, List.getElem?_eq_getElem (by rw [txCells_length]; exact hi)]
  simp [txCells, tx1]
def textsOf (f : FV) : List (List Int) := if ctl f.tag = true then [f.text] else f.subs.map (·.2)
def textsTo (f : FV) (i : Nat) : List (List Int) := (f.subs.take i).map (·.2)
theorem textsTo_succ (f : FV) (i : Nat) (hi : i < f.subs.length) : txCells (textsTo f (i + 1)) = txCells (textsTo f i) ++ [.sl f.subs[i].2.length (u8s f.subs[i].2)] := by
  unfold textsTo; rw [List.take_add_one, List.getElem?_eq_getElem hi, List.map_append]; unfold txCells; rw [List.map_append]; rfl
theorem textsTo_length (f : FV) (i : Nat) (hi : i ≤ f.subs.length) : (textsTo f i).length = i := by unfold textsTo; simp; omega
set_option maxRecDepth 100000 in
set_option maxHeartbeats 4000000 in
theorem Texts_c (f : FV) (ht : f.tag.length ≤ 9223372036854775807) (hx : f.text.length ≤ 140737488355328) (hs : ∀ s ∈ f.subs, s.2.length ≤ 140737488355328) (hn : f.subs.length ≤ 1099511627776) :
    ACall Try.prog 31 [.agg (fCells f)] (.sl (textsOf f).length (txCells (textsOf f))) none := by
  have hcf : closedL (subCells f.subs) = true := subCells_closed _
  refine acall_intro none Try.func31 rfl (by kernel_rfl) (by simp [Try.f31]) ?_
  refine ex_run 30 ?_
  simp (maxSteps := 200000) only [Try.f31, fCells, hcf, push_cast, List.getD_cons_zero, List.getD_cons_succ, List.take_succ_cons, List.take_zero, List.drop_succ_cons, Nat.reduceLT, Nat.reduceLeDiff, Nat.reduceEqDiff, Nat.reduceAdd, Nat.reduceMul, Nat.reduceSub, Int.reduceToNat, Int.reduceLE, Int.reduceLT, Int.reduceEq, Int.reduceAdd, ↓reduceIte, decide_true, decide_false, and_self]
  refine call_intro (Control_c f.tag ht) (fun h => by cases h) ?_
  cases hc : List.isPrefixOf [48, 48] f.tag with
  | true =>
    have hT : textsOf f = [f.text] := by unfold textsOf; rw [if_pos (show ctl f.tag = true from hc)]
    rw [hT]
    simp (maxSteps := 200000) only [push_cast, List.getD_cons_zero, List.getD_cons_succ, List.take_succ_cons, List.take_zero, List.drop_succ_cons, Nat.reduceLT, Nat.reduceLeDiff, Nat.reduceEqDiff, Nat.reduceAdd, Nat.reduceMul, Nat.reduceSub, Int.reduceToNat, Int.reduceLE, Int.reduceLT, Int.reduceEq, Int.reduceAdd, ↓reduceIte, decide_true, decide_false, and_self]
    refine call_intro (Clone_c f.text hx) (fun h => by cases h) ?_
    simp (maxSteps := 200000) only [hcf, push_cast, List.getD_cons_zero, List.getD_cons_succ, List.take_succ_cons, List.take_zero, List.drop_succ_cons, Nat.reduceLT, Nat.reduceLeDiff, Nat.reduceEqDiff, Nat.reduceAdd, Nat.reduceMul, Nat.reduceSub, Int.reduceToNat, Int.reduceLE, Int.reduceLT, Int.reduceEq, Int.reduceAdd, ↓reduceIte, decide_true, decide_false, and_self]
    exact ⟨_, [.sl 1 (txCells [f.text])], rfl, by simp [outA, outV, outC, mkS_env, mkS_tk, lkF, lkG, u8s_closed, txCells, tx1, AV.closed, closedL], .refl _, rfl⟩
  | false =>
    have hT : textsOf f = f.subs.map (·.2) := by unfold textsOf; rw [if_neg (by show ¬ ctl f.tag = true; unfold ctl; rw [hc]; simp)]
    simp (maxSteps := 200000) only [hcf, push_cast, List.getD_cons_zero, List.getD_cons_succ, List.take_succ_cons, List.take_zero, List.drop_succ_cons, Nat.reduceLT, Nat.reduceLeDiff, Nat.reduceEqDiff, Nat.reduceAdd, Nat.reduceMul, Nat.reduceSub, Int.reduceToNat, Int.reduceLE, Int.reduceLT, Int.reduceEq, Int.reduceAdd, ↓reduceIte, decide_true, decide_false, and_self]
    refine run_lazy 3 100 1 rfl ?_
    refine run_keep (l' := [(16, .int .i64 0), (15, .int .i64 f.subs.length), (14, .sl f.subs.length (subCells f.subs)), (3, .own 100 _ 0 0)]) (t' := [(100, ⟨_, 1, txCells (textsTo f 0)⟩)]) (nx' := _) ⟨.refl _, .refl _, .refl _, .refl _, trivial⟩ ⟨⟨_, rfl, rfl, rfl, SubL.refl _⟩, trivial⟩ (Nat.le_refl _) ?_
    refine run_loop (fun n s => ∃ (i g nx : Nat), i ≤ f.subs.length ∧ n = f.subs.length - i ∧ s = mkS [(16, .int .i64 i), (15, .int .i64 f.subs.length), (14, .sl f.subs.length (subCells f.subs)), (3, .own 100 g 0 i)] [(100, ⟨g, 1, txCells (textsTo f i)⟩)] nx) _ ⟨0, _, _, Nat.zero_le _, rfl, rfl⟩ ?_
    rintro n s ⟨i, g, nx, hi, rfl, rfl⟩
    have hcl : (txCells (textsTo f i)).length = i := by rw [txCells_length, textsTo_length f i hi]
    by_cases h : i < f.subs.length
    · have r0 := subCells_row f.subs i h
      have hsl := subCells_length f.subs
      have hpos : 0 < f.subs.length * 2 := by omega
      have l0 : i * 2 + 2 ≤ f.subs.length * 2 := by omega
      have hw : IntKind.i64.wrap ((i : Int) + 1) = ((i + 1 : Nat) : Int) := by rw [wrap_i64 (by omega)]; omega
      have hos := textsTo_succ f i h
      have hlen := hs _ (List.getElem_mem h)
      generalize f.subs[i] = q at *
      obtain ⟨c, tx⟩ := q
      simp only [sCells] at r0
      simp only at hos hlen
      have hcx : closedL (u8s tx) = true := u8s_closed tx
      refine ex_run 40 ?_
      simp (maxSteps := 200000) only [h, r0, hsl, hpos, l0, hcx, push_cast, List.getD_cons_zero, List.getD_cons_succ, List.take_succ_cons, List.take_zero, List.drop_succ_cons, Nat.reduceLT, Nat.reduceLeDiff, Nat.reduceEqDiff, Nat.reduceAdd, Nat.reduceMul, Nat.reduceSub, Int.reduceToNat, Int.reduceLE, Int.reduceLT, Int.reduceEq, Int.reduceAdd, ↓reduceIte, decide_true, decide_false, and_self]
      refine call_intro (Clone_c tx hlen) (fun h => by cases h) ?_
      simp (maxSteps := 200000) only [hw, hcl, push_cast, List.getD_cons_zero, List.getD_cons_succ, List.take_succ_cons, List.take_zero, List.drop_succ_cons, Nat.reduceLT, Nat.reduceLeDiff, Nat.reduceEqDiff, Nat.reduceAdd, Nat.reduceMul, Nat.reduceSub, Int.reduceToNat, Int.reduceLE, Int.reduceLT, Int.reduceEq, Int.reduceAdd, ↓reduceIte, decide_true, decide_false, and_self]
      refine ⟨⟨by omega, by omega⟩, ?_⟩
      rw [← hos]
      refine run_back_le (le_mk (l' := [(16, .int .i64 ((i + 1 : Nat) : Int)), (15, .int .i64 f.subs.length), (14, .sl f.subs.length (subCells f.subs)), (3, .own 100 _ 0 (i + 1))]) (t' := [(100, ⟨_, 1, txCells (textsTo f (i + 1))⟩)]) (nx' := _)
          ⟨.refl _, .refl _, .refl _, .refl _, trivial⟩ ⟨⟨_, rfl, rfl, rfl, SubL.refl _⟩, trivial⟩ (Nat.le_refl _)) ?_
      exact ⟨f.subs.length - (i + 1), by omega, i + 1, _, _, by omega, rfl, rfl⟩
    · have hie : i = f.subs.length := by omega
      refine ex_run 30 ?_
      simp (maxSteps := 200000) only [h, push_cast, List.getD_cons_zero, List.getD_cons_succ, List.take_succ_cons, List.take_zero, List.drop_succ_cons, Nat.reduceLT, Nat.reduceLeDiff, Nat.reduceEqDiff, Nat.reduceAdd, Nat.reduceMul, Nat.reduceSub, Int.reduceToNat, Int.reduceLE, Int.reduceLT, Int.reduceEq, Int.reduceAdd, ↓reduceIte, decide_true, decide_false, and_self]
      have hoe : textsTo f i = textsOf f := by rw [hT, hie]; unfold textsTo; rw [List.take_length]
      have hol : (textsOf f).length = i := by rw [hT, List.length_map, hie]
      have htk : (txCells (textsOf f)).take i = txCells (textsOf f) := List.take_of_length_le (by rw [txCells_length, hol]; omega)
      rw [hol, hoe]
      exact ⟨_, [.sl i (txCells (textsOf f))], rfl, by simp [outA, outV, outC, mkS_env, mkS_tk, lkF, lkG, txCells_closed, htk], .refl _, rfl⟩
set_option maxRecDepth 100000 in
set_option maxHeartbeats 4000000 in
theorem rtexts_c (f : FV) (ht : f.tag.length ≤ 9223372036854775807) (hn : f.subs.length ≤ 1099511627776) :
    ACall Try.prog 32 [.agg (fCells f)] (.sl (textsOf f).length (txCells (textsOf f))) none := by
  have hcf : closedL (subCells f.subs) = true := subCells_closed _
  refine acall_intro none Try.func32 rfl (by kernel_rfl) (by simp [Try.f32]) ?_
  refine ex_run 30 ?_
  simp (maxSteps := 200000) only [Try.f32, fCells, hcf, push_cast, List.getD_cons_zero, List.getD_cons_succ, List.take_succ_cons, List.take_zero, List.drop_succ_cons, Nat.reduceLT, Nat.reduceLeDiff, Nat.reduceEqDiff, Nat.reduceAdd, Nat.reduceMul, Nat.reduceSub, Int.reduceToNat, Int.reduceLE, Int.reduceLT, Int.reduceEq, Int.reduceAdd, ↓reduceIte, decide_true, decide_false, and_self]
  refine call_intro (RControl_c f.tag ht) (fun h => by cases h) ?_
  cases hc : List.isPrefixOf [48, 48] f.tag with
  | true =>
    have hT : textsOf f = [f.text] := by unfold textsOf; rw [if_pos (show ctl f.tag = true from hc)]
    rw [hT]
    simp (maxSteps := 200000) only [hcf, push_cast, List.getD_cons_zero, List.getD_cons_succ, List.take_succ_cons, List.take_zero, List.drop_succ_cons, Nat.reduceLT, Nat.reduceLeDiff, Nat.reduceEqDiff, Nat.reduceAdd, Nat.reduceMul, Nat.reduceSub, Int.reduceToNat, Int.reduceLE, Int.reduceLT, Int.reduceEq, Int.reduceAdd, ↓reduceIte, decide_true, decide_false, and_self]
    exact ⟨_, [.sl 1 (txCells [f.text])], rfl, by simp [outA, outV, outC, mkS_env, mkS_tk, lkF, lkG, u8s_closed, txCells, tx1, AV.closed, closedL], .refl _, rfl⟩
  | false =>
    have hT : textsOf f = f.subs.map (·.2) := by unfold textsOf; rw [if_neg (by show ¬ ctl f.tag = true; unfold ctl; rw [hc]; simp)]
    simp (maxSteps := 200000) only [hcf, push_cast, List.getD_cons_zero, List.getD_cons_succ, List.take_succ_cons, List.take_zero, List.drop_succ_cons, Nat.reduceLT, Nat.reduceLeDiff, Nat.reduceEqDiff, Nat.reduceAdd, Nat.reduceMul, Nat.reduceSub, Int.reduceToNat, Int.reduceLE, Int.reduceLT, Int.reduceEq, Int.reduceAdd, ↓reduceIte, decide_true, decide_false, and_self]
    refine run_lazy 3 100 1 rfl ?_
    refine run_keep (l' := [(1, .addr 1 0 0), (4, .int .i64 0), (3, .own 100 _ 0 0)]) (t' := [(100, ⟨_, 1, txCells (textsTo f 0)⟩), (1, ⟨0, 1, fCells f⟩)]) (nx' := _) ⟨.refl _, .refl _, .refl _, trivial⟩ ⟨⟨_, rfl, rfl, rfl, SubL.refl _⟩, ⟨_, rfl, rfl, rfl, SubL.refl _⟩, trivial⟩ (Nat.le_refl _) ?_
    refine run_loop (fun n s => ∃ (i g nx : Nat), i ≤ f.subs.length ∧ n = f.subs.length - i ∧ s = mkS [(1, .addr 1 0 0), (4, .int .i64 i), (3, .own 100 g 0 i)] [(100, ⟨g, 1, txCells (textsTo f i)⟩), (1, ⟨0, 1, fCells f⟩)] nx) _ ⟨0, _, _, Nat.zero_le _, rfl, rfl⟩ ?_
    rintro n s ⟨i, g, nx, hi, rfl, rfl⟩
    have hcl : (txCells (textsTo f i)).length = i := by rw [txCells_length, textsTo_length f i hi]
    by_cases h : i < f.subs.length
    · have g1 := subCells_get f.subs i 1 h (by omega)
      have hsl := subCells_length f.subs
      have hpos : 0 < f.subs.length * 2 := by omega
      have l1 : i * 2 + 1 < f.subs.length * 2 := by omega
      have hw : IntKind.i64.wrap ((i : Int) + 1) = ((i + 1 : Nat) : Int) := by rw [wrap_i64 (by omega)]; omega
      have hos := textsTo_succ f i h
      generalize f.subs[i] = q at *
      obtain ⟨c, tx⟩ := q
      simp only [sCells, List.getD_cons_zero, List.getD_cons_succ] at g1
      simp only at hos
      refine ex_run 40 ?_
      simp (maxSteps := 200000) only [fCells, h, g1, hsl, hpos, l1, hcl, hw, push_cast, List.getD_cons_zero, List.getD_cons_succ, List.take_succ_cons, List.take_zero, List.drop_succ_cons, Nat.reduceLT, Nat.reduceLeDiff, Nat.reduceEqDiff, Nat.reduceAdd, Nat.reduceMul, Nat.reduceSub, Int.reduceToNat, Int.reduceLE, Int.reduceLT, Int.reduceEq, Int.reduceAdd, ↓reduceIte, decide_true, decide_false, and_self]
      refine ⟨⟨by omega, by omega⟩, ?_⟩
      rw [← hos]
      refine run_back_le (le_mk (l' := [(1, .addr 1 0 0), (4, .int .i64 ((i + 1 : Nat) : Int)), (3, .own 100 _ 0 (i + 1))]) (t' := [(100, ⟨_, 1, txCells (textsTo f (i + 1))⟩), (1, ⟨0, 1, fCells f⟩)]) (nx' := _)
          ⟨.refl _, .of_eq (congrArg (AV.int .i64) (by omega)), .refl _, trivial⟩ ⟨⟨_, rfl, rfl, rfl, SubL.refl _⟩, ⟨_, rfl, rfl, rfl, SubL.refl _⟩, trivial⟩ (Nat.le_refl _)) ?_
      exact ⟨f.subs.length - (i + 1), by omega, i + 1, _, _, by omega, rfl, rfl⟩
    · have hie : i = f.subs.length := by omega
      refine ex_run 30 ?_
      simp (maxSteps := 200000) only [fCells, h, push_cast, List.getD_cons_zero, List.getD_cons_succ, List.take_succ_cons, List.take_zero, List.drop_succ_cons, Nat.reduceLT, Nat.reduceLeDiff, Nat.reduceEqDiff, Nat.reduceAdd, Nat.reduceMul, Nat.reduceSub, Int.reduceToNat, Int.reduceLE, Int.reduceLT, Int.reduceEq, Int.reduceAdd, ↓reduceIte, decide_true, decide_false, and_self]
      have hoe : textsTo f i = textsOf f := by rw [hT, hie]; unfold textsTo; rw [List.take_length]
      have hol : (textsOf f).length = i := by rw [hT, List.length_map, hie]
      have htk : (txCells (textsOf f)).take i = txCells (textsOf f) := List.take_of_length_le (by rw [txCells_length, hol]; omega)
      rw [hol, hoe]
      exact ⟨_, [.sl i (txCells (textsOf f))], rfl, by simp [outA, outV, outC, mkS_env, mkS_tk, lkF, lkG, txCells_closed, htk], .refl _, rfl⟩
end Go.Proofs.Yteapibifebnboaa

/- slices.Clone of subfields, field.With -/
set_option linter.unusedVariables false
set_option linter.unusedSimpArgs false
namespace Go.Proofs.Yteapibifebnboaa
open Go Go.Eng
set_option maxRecDepth 100000 in
theorem SubsClone_nil : ACall Try.prog 53 [.sl 0 []] (.sl 0 []) none := by
  refine acall_intro none Try.func53 rfl (by kernel_rfl) (by simp [Try.f53]) ?_
  refine run_split 0 rfl ?_ ?_
  · refine ex_run 30 ?_
    simp (maxSteps := 200000) only [Try.f53, isNilS, eqOf, push_cast, List.getD_cons_zero, List.getD_cons_succ, List.take_succ_cons, List.take_zero, List.drop_succ_cons, Nat.reduceLT, Nat.reduceLeDiff, Nat.reduceEqDiff, Nat.reduceAdd, Nat.reduceMul, Nat.reduceSub, Int.reduceToNat, Int.reduceLE, Int.reduceLT, Int.reduceEq, Int.reduceAdd, ↓reduceIte, decide_true, decide_false, and_self]
    exact ⟨_, _, rfl, rfl, .nil, rfl⟩
  · refine ex_run 5 ?_
    simp (maxSteps := 200000) only [Try.f53, isNilS, eqOf, push_cast, List.getD_cons_zero, List.getD_cons_succ, List.take_succ_cons, List.take_zero, List.drop_succ_cons, Nat.reduceLT, Nat.reduceLeDiff, Nat.reduceEqDiff, Nat.reduceAdd, Nat.reduceMul, Nat.reduceSub, Int.reduceToNat, Int.reduceLE, Int.reduceLT, Int.reduceEq, Int.reduceAdd, ↓reduceIte, decide_true, decide_false, and_self]
    refine run_keep (l' := [(0, .sl 0 []), (4, .bool false), (2, .nilS)]) (t' := []) (nx' := _) ⟨.em _, .refl _, .refl _, trivial⟩ trivial (Nat.le_refl _) ?_
    refine ex_run 30 ?_
    simp (maxSteps := 200000) only [push_cast, List.getD_cons_zero, List.getD_cons_succ, List.take_succ_cons, List.take_zero, List.drop_succ_cons, Nat.reduceLT, Nat.reduceLeDiff, Nat.reduceEqDiff, Nat.reduceAdd, Nat.reduceMul, Nat.reduceSub, Int.reduceToNat, Int.reduceLE, Int.reduceLT, Int.reduceEq, Int.reduceAdd, ↓reduceIte, decide_true, decide_false, and_self]
    exact ⟨_, [.sl 0 []], rfl, by simp [outA, outV, outC, mkS_env, mkS_tk, lkF, lkG, closedL], .refl _, rfl⟩
set_option maxRecDepth 100000 in
theorem SubsClone_c (L : List SubV) (h0 : L ≠ []) (hl : L.length ≤ 1099511627776) : ACall Try.prog 53 [.sl L.length (subCells L)] (.own 0 0 0 L.length) (some ⟨0, 2, subCells L⟩) := by
  have hn : ¬ L.length = 0 := fun e => h0 (List.eq_nil_of_length_eq_zero e)
  have hsl := subCells_length L
  have hcl : closedL (subCells L) = true := subCells_closed _
  have htk : (subCells L).take (L.length * 2) = subCells L := List.take_of_length_le (by omega)
  refine acall_intro (some 5) Try.func53 rfl (by kernel_rfl) (by simp [Try.f53]) ?_
  refine ex_run 30 ?_
  simp (maxSteps := 200000) only [Try.f53, isNilS, eqOf, hn, htk, push_cast, List.getD_cons_zero, List.getD_cons_succ, List.take_succ_cons, List.take_zero, List.drop_succ_cons, Nat.reduceLT, Nat.reduceLeDiff, Nat.reduceEqDiff, Nat.reduceAdd, Nat.reduceMul, Nat.reduceSub, Int.reduceToNat, Int.reduceLE, Int.reduceLT, Int.reduceEq, Int.reduceAdd, ↓reduceIte, decide_true, decide_false, and_self]
  refine ⟨hsl, ⟨by omega, by omega⟩, ?_⟩
  exact ⟨_, [.own 0 0 0 L.length], rfl, by simp [outA, outV, outC, mkS_env, mkS_tk, lkF, lkG, AV.closed], .refl _, ⟨_, rfl, hcl, rfl⟩⟩
def wsubs (L : List SubV) (T : List (List Int)) (i : Nat) : List SubV := List.zipWith (fun s t => (s.1, t)) (L.take i) (T.take i) ++ L.drop i
def withF (f : FV) (T : List (List Int)) : FV := if ctl f.tag = true then ⟨f.tag, T.getD 0 [], f.i0, f.i1, f.subs⟩ else ⟨f.tag, f.text, f.i0, f.i1, wsubs f.subs T f.subs.length⟩
def mayW (f : FV) (T : List (List Int)) : Bool := decide (T.length = (textsOf f).length) && goodF (withF f T)
def withR (f : FV) (T : List (List Int)) : AV := if mayW f T = true then .tup [.agg (fCells (withF f T)), .bool true] else .tup [.agg (fCells zeroF), .bool false]
theorem wsubs_zero (L : List SubV) (T : List (List Int)) : wsubs L T 0 = L := by simp [wsubs]
theorem wsubs_length (L : List SubV) (T : List (List Int)) (h : T.length = L.length) (i : Nat) : (wsubs L T i).length = L.length := by
  simp [wsubs]; omega
theorem wsubs_succ (L : List SubV) (T : List (List Int)) (i : Nat) (hi : i < L.length) (ht : i < T.length) : wsubs L T (i + 1) = List.zipWith (fun s t => (s.1, t)) (L.take i) (T.take i) ++ (L[i].1, T[i]) :: L.drop (i + 1) := by
  unfold wsubs
  rw [List.take_add_one, List.take_add_one, List.getElem?_eq_getElem hi, List.getElem?_eq_getElem ht, List.zipWith_append (by simp; omega)]
  simp
theorem subCells_append (L M : List SubV) : subCells (L ++ M) = subCells L ++ subCells M := List.flatMap_append ..
theorem wsubs_set (L : List SubV) (T : List (List Int)) (i : Nat) (hi : i < L.length) (ht : i < T.length) : (subCells (wsubs L T i)).set (i * 2 + 1) (.sl T[i].length (u8s T[i])) = subCells (wsubs L T (i + 1)) := by
  have hz : (subCells (List.zipWith (fun s t => (s.1, t)) (L.take i) (T.take i))).length = i * 2 := by rw [subCells_length]; simp; omega
  rw [wsubs_succ L T i hi ht]
  unfold wsubs
  rw [subCells_append, subCells_append, List.drop_eq_getElem_cons hi, List.set_append_right _ _ (by omega), hz, show i * 2 + 1 - i * 2 = 1 by omega]
  rfl
theorem frz_all {t g n : Nat} {L : List AV} (h : L.length = n * 2) : Frz t ⟨g, 2, L⟩ (.own t g 0 n) (.sl n L) := by
  have := Frz.own (t := t) (T := ⟨g, 2, L⟩) 0 n (by show 0 + n * 2 ≤ L.length; omega)
  have e : (L.drop 0).take (n * 2) = L := List.take_of_length_le (by rw [List.drop_zero]; omega)
  rw [show ((⟨g, 2, L⟩ : Tok).cs.drop 0).take (n * (⟨g, 2, L⟩ : Tok).sz) = L from e] at this
  exact this
theorem wsubs_mem {L : List SubV} {T : List (List Int)} {s : SubV} (h : s ∈ wsubs L T L.length) : ∃ a ∈ L, ∃ t ∈ T, s = (a.1, t) := by
  unfold wsubs at h
  rw [List.take_length, List.drop_length, List.append_nil] at h
  obtain ⟨i, hi, rfl⟩ := List.mem_iff_getElem.1 h
  rw [List.getElem_zipWith]
  simp only [List.length_zipWith, List.length_take] at hi
  exact ⟨_, List.getElem_mem (by omega), _, List.mem_of_mem_take (List.getElem_mem (by rw [List.length_take]; omega)), rfl⟩
set_option maxRecDepth 100000 in
set_option maxHeartbeats 8000000 in
theorem With_c (f : FV) (T : List (List Int)) (hF : FB f) (hT : ∀ t ∈ T, inB t ∧ t.length ≤ 1099511627776) (hTn : T.length ≤ 1099511627776) (ht : f.tag.length ≤ 9223372036854775807) (hx : f.text.length ≤ 140737488355328) (hs : ∀ s ∈ f.subs, s.2.length ≤ 140737488355328) (hn : f.subs.length ≤ 1099511627776)
    (hb : T.length = (textsOf f).length → (fbytes (withF f T)).length ≤ 1099511627776) :
    ACall Try.prog 33 [.agg (fCells f), .sl T.length (txCells T)] (withR f T) none := by
  have hcf : closedL (subCells f.subs) = true := subCells_closed _
  have hct : closedL (txCells T) = true := txCells_closed _
  have hcu : closedL (txCells (textsOf f)) = true := txCells_closed _
  refine acall_intro none Try.func33 rfl (by kernel_rfl) (by simp [Try.f33]) ?_
  refine ex_run 30 ?_
  simp (maxSteps := 200000) only [Try.f33, fCells, hcf, hct, push_cast, List.getD_cons_zero, List.getD_cons_succ, List.take_succ_cons, List.take_zero, List.drop_succ_cons, Nat.reduceLT, Nat.reduceLeDiff, Nat.reduceEqDiff, Nat.reduceAdd, Nat.reduceMul, Nat.reduceSub, Int.reduceToNat, Int.reduceLE, Int.reduceLT, Int.reduceEq, Int.reduceAdd, ↓reduceIte, decide_true, decide_false, and_self]
  refine call_intro (Texts_c f ht hx hs hn) (fun h => by cases h) ?_
  by_cases hlen : T.length = (textsOf f).length
  · have hlen' : (T.length : Int) = ((textsOf f).length : Int) := by omega
    simp (maxSteps := 200000) only [hcf, hcu, hlen', push_cast, List.getD_cons_zero, List.getD_cons_succ, List.take_succ_cons, List.take_zero, List.drop_succ_cons, Nat.reduceLT, Nat.reduceLeDiff, Nat.reduceEqDiff, Nat.reduceAdd, Nat.reduceMul, Nat.reduceSub, Int.reduceToNat, Int.reduceLE, Int.reduceLT, Int.reduceEq, Int.reduceAdd, ↓reduceIte, decide_true, decide_false, and_self]
    refine call_intro (Control_c f.tag ht) (fun h => by cases h) ?_
    cases hc : List.isPrefixOf [48, 48] f.tag with
    | true =>
      have hTe : textsOf f = [f.text] := by unfold textsOf; rw [if_pos (show ctl f.tag = true from hc)]
      rw [hTe] at hlen
      obtain ⟨t, rfl⟩ : ∃ t, T = [t] := by
        cases T with
        | nil => simp at hlen
        | cons t T => cases T with
          | nil => exact ⟨t, rfl⟩
          | cons u T => simp at hlen
      obtain ⟨ht1, ht2⟩ := hT t (List.mem_cons_self ..)
      have hwf : withF f [t] = ⟨f.tag, t, f.i0, f.i1, f.subs⟩ := by unfold withF; rw [if_pos (show ctl f.tag = true from hc)]; rfl
      have hlen : [t].length = (textsOf f).length := by rw [hTe]; rfl
      have hG : FB (withF f [t]) := by rw [hwf]; exact ⟨ht1, hF.subs⟩
      have hPr := Print_c (withF f [t]) hG (by rw [hwf]; exact ht) (by rw [hwf]; show t.length ≤ _; omega) (hb hlen) (by rw [hwf]; exact hn)
      have hgc : fCells (withF f [t]) = [.str f.tag, .sl t.length (u8s t), .int .u8 f.i0, .int .u8 f.i1, .sl f.subs.length (subCells f.subs)] := by rw [hwf]; rfl
      rw [hgc] at hPr
      simp (maxSteps := 200000) only [hcf, txCells, tx1, List.map_cons, List.map_nil, List.length_cons, List.length_nil, push_cast, List.getD_cons_zero, List.getD_cons_succ, List.take_succ_cons, List.take_zero, List.drop_succ_cons, Nat.reduceLT, Nat.reduceLeDiff, Nat.reduceEqDiff, Nat.reduceAdd, Nat.reduceMul, Nat.reduceSub, Int.reduceToNat, Int.reduceLE, Int.reduceLT, Int.reduceEq, Int.reduceAdd, ↓reduceIte, decide_true, decide_false, and_self]
      refine call_intro (Clone_c t (by omega)) (fun h => by cases h) ?_
      simp (maxSteps := 200000) only [hcf, push_cast, List.getD_cons_zero, List.getD_cons_succ, List.take_succ_cons, List.take_zero, List.drop_succ_cons, Nat.reduceLT, Nat.reduceLeDiff, Nat.reduceEqDiff, Nat.reduceAdd, Nat.reduceMul, Nat.reduceSub, Int.reduceToNat, Int.reduceLE, Int.reduceLT, Int.reduceEq, Int.reduceAdd, ↓reduceIte, decide_true, decide_false, and_self]
      refine call_intro hPr (fun h => by cases h) ?_
      unfold prR
      cases hgd : goodF (withF f [t]) with
      | false =>
        rw [if_neg (by simp)]
        simp (maxSteps := 200000) only [push_cast, List.getD_cons_zero, List.getD_cons_succ, List.take_succ_cons, List.take_zero, List.drop_succ_cons, Nat.reduceLT, Nat.reduceLeDiff, Nat.reduceEqDiff, Nat.reduceAdd, Nat.reduceMul, Nat.reduceSub, Int.reduceToNat, Int.reduceLE, Int.reduceLT, Int.reduceEq, Int.reduceAdd, ↓reduceIte, decide_true, decide_false, and_self]
        unfold withR mayW
        rw [hgd, Bool.and_false, if_neg (by simp)]
        exact ⟨[.agg [.str [], .nilS, .int .u8 0, .int .u8 0, .nilS], .bool false], [.agg [.str [], .nilS, .int .u8 0, .int .u8 0, .nilS], .bool false], by kernel_rfl, by simp [outA, outV, outL, outC, AV.closed], sub_tup (ds := [.agg (fCells zeroF), .bool false]) ⟨sub_agg ⟨.refl _, .nil, .refl _, .refl _, .nil, trivial⟩, .refl _, trivial⟩, rfl⟩
      | true =>
        rw [if_pos rfl]
        simp (maxSteps := 200000) only [push_cast, List.getD_cons_zero, List.getD_cons_succ, List.take_succ_cons, List.take_zero, List.drop_succ_cons, Nat.reduceLT, Nat.reduceLeDiff, Nat.reduceEqDiff, Nat.reduceAdd, Nat.reduceMul, Nat.reduceSub, Int.reduceToNat, Int.reduceLE, Int.reduceLT, Int.reduceEq, Int.reduceAdd, ↓reduceIte, decide_true, decide_false, and_self]
        unfold withR mayW
        rw [hgd, decide_eq_true hlen, if_pos (by rfl), hgc]
        exact ⟨[.agg [.str f.tag, .sl t.length (u8s t), .int .u8 f.i0, .int .u8 f.i1, .sl f.subs.length (subCells f.subs)], .bool true], [.agg [.str f.tag, .sl t.length (u8s t), .int .u8 f.i0, .int .u8 f.i1, .sl f.subs.length (subCells f.subs)], .bool true], by kernel_rfl, by simp [outA, outV, outL, outC, AV.closed, u8s_closed, hcf], .refl _, rfl⟩
    | false =>
      have hTe : (textsOf f).length = f.subs.length := by unfold textsOf; rw [if_neg (by show ¬ ctl f.tag = true; unfold ctl; rw [hc]; simp), List.length_map]
      have hTl : T.length = f.subs.length := by omega
      have hwf : withF f T = ⟨f.tag, f.text, f.i0, f.i1, wsubs f.subs T f.subs.length⟩ := by unfold withF; rw [if_neg (by show ¬ ctl f.tag = true; unfold ctl; rw [hc]; simp)]
      have hwl := wsubs_length f.subs T hTl f.subs.length
      have hG : FB (withF f T) := by
        rw [hwf]
        refine ⟨hF.text, fun s hs => ?_⟩
        obtain ⟨a, ha, t, htm, rfl⟩ := wsubs_mem hs
        exact ⟨(hF.subs a ha).1, (hT t htm).1⟩
      have hPr := Print_c (withF f T) hG (by rw [hwf]; exact ht) (by rw [hwf]; exact hx) (hb hlen) (by rw [hwf]; show (wsubs f.subs T f.subs.length).length ≤ _; omega)
      have hgc : fCells (withF f T) = [.str f.tag, .sl f.text.length (u8s f.text), .int .u8 f.i0, .int .u8 f.i1, .sl f.subs.length (subCells (wsubs f.subs T f.subs.length))] := by rw [hwf]; show [_, _, _, _, AV.sl (wsubs f.subs T f.subs.length).length _] = _; rw [hwl]
      rw [hgc] at hPr
      by_cases h0 : f.subs = []
      · have hn0 : f.subs.length = 0 := by rw [h0]; rfl
        have hT0 : T = [] := List.eq_nil_of_length_eq_zero (by omega)
        have hw0 : wsubs f.subs T f.subs.length = [] := by rw [h0, hT0]; rfl
        rw [hw0, hn0] at hPr hgc
        have hfz : f.subs.length = 0 := hn0
        simp (maxSteps := 200000) only [hcf, hfz, h0, subCells_nil, push_cast, List.getD_cons_zero, List.getD_cons_succ, List.take_succ_cons, List.take_zero, List.drop_succ_cons, Nat.reduceLT, Nat.reduceLeDiff, Nat.reduceEqDiff, Nat.reduceAdd, Nat.reduceMul, Nat.reduceSub, Int.reduceToNat, Int.reduceLE, Int.reduceLT, Int.reduceEq, Int.reduceAdd, ↓reduceIte, decide_true, decide_false, and_self]
        refine call_intro SubsClone_nil (fun h => by cases h) ?_
        simp (maxSteps := 200000) only [push_cast, List.getD_cons_zero, List.getD_cons_succ, List.take_succ_cons, List.take_zero, List.drop_succ_cons, Nat.reduceLT, Nat.reduceLeDiff, Nat.reduceEqDiff, Nat.reduceAdd, Nat.reduceMul, Nat.reduceSub, Int.reduceToNat, Int.reduceLE, Int.reduceLT, Int.reduceEq, Int.reduceAdd, ↓reduceIte, decide_true, decide_false, and_self]
        refine run_keep (l' := [(31, .int .i64 0), (30, .int .i64 0), (5, .bool false), (4, .addr 4 1 0), (2, .addr 2 0 0)]) (t' := [(2, ⟨0, 1, [.str f.tag, .sl f.text.length (u8s f.text), .int .u8 f.i0, .int .u8 f.i1, .sl 0 []]⟩), (4, ⟨1, 1, [.str [], .nilS, .int .u8 0, .int .u8 0, .nilS]⟩)]) (nx' := _) ⟨.refl _, .refl _, .refl _, .refl _, .refl _, trivial⟩ ⟨⟨_, rfl, rfl, rfl, SubL.refl _⟩, ⟨_, rfl, rfl, rfl, SubL.refl _⟩, trivial⟩ (Nat.le_refl _) ?_
        refine run_loop (fun n s => ∃ nx : Nat, n = 0 ∧ s = mkS [(31, .int .i64 0), (30, .int .i64 0), (5, .bool false), (4, .addr 4 1 0), (2, .addr 2 0 0)] [(2, ⟨0, 1, [.str f.tag, .sl f.text.length (u8s f.text), .int .u8 f.i0, .int .u8 f.i1, .sl 0 []]⟩), (4, ⟨1, 1, [.str [], .nilS, .int .u8 0, .int .u8 0, .nilS]⟩)] nx) _ ⟨_, rfl, rfl⟩ ?_
        rintro n s ⟨nx, rfl, rfl⟩
        refine ex_run 40 ?_
        simp (maxSteps := 200000) only [push_cast, List.getD_cons_zero, List.getD_cons_succ, List.take_succ_cons, List.take_zero, List.drop_succ_cons, Nat.reduceLT, Nat.reduceLeDiff, Nat.reduceEqDiff, Nat.reduceAdd, Nat.reduceMul, Nat.reduceSub, Int.reduceToNat, Int.reduceLE, Int.reduceLT, Int.reduceEq, Int.reduceAdd, ↓reduceIte, decide_true, decide_false, and_self]
        refine call_intro hPr (fun h => by cases h) ?_
        unfold prR
        cases hgd : goodF (withF f T) with
        | false =>
          rw [if_neg (by simp)]
          simp (maxSteps := 200000) only [push_cast, List.getD_cons_zero, List.getD_cons_succ, List.take_succ_cons, List.take_zero, List.drop_succ_cons, Nat.reduceLT, Nat.reduceLeDiff, Nat.reduceEqDiff, Nat.reduceAdd, Nat.reduceMul, Nat.reduceSub, Int.reduceToNat, Int.reduceLE, Int.reduceLT, Int.reduceEq, Int.reduceAdd, ↓reduceIte, decide_true, decide_false, and_self]
          unfold withR mayW
          rw [hgd, Bool.and_false, if_neg (by simp)]
          exact ⟨[.agg [.str [], .nilS, .int .u8 0, .int .u8 0, .nilS], .bool false], [.agg [.str [], .nilS, .int .u8 0, .int .u8 0, .nilS], .bool false], by kernel_rfl, by simp [outA, outV, outL, outC, AV.closed], sub_tup (ds := [.agg (fCells zeroF), .bool false]) ⟨sub_agg ⟨.refl _, .nil, .refl _, .refl _, .nil, trivial⟩, .refl _, trivial⟩, rfl⟩
        | true =>
          rw [if_pos rfl]
          simp (maxSteps := 200000) only [push_cast, List.getD_cons_zero, List.getD_cons_succ, List.take_succ_cons, List.take_zero, List.drop_succ_cons, Nat.reduceLT, Nat.reduceLeDiff, Nat.reduceEqDiff, Nat.reduceAdd, Nat.reduceMul, Nat.reduceSub, Int.reduceToNat, Int.reduceLE, Int.reduceLT, Int.reduceEq, Int.reduceAdd, ↓reduceIte, decide_true, decide_false, and_self]
          unfold withR mayW
          rw [hgd, decide_eq_true hlen, if_pos (by rfl), hgc]
          exact ⟨[.agg [.str f.tag, .sl f.text.length (u8s f.text), .int .u8 f.i0, .int .u8 f.i1, .sl 0 []], .bool true], [.agg [.str f.tag, .sl f.text.length (u8s f.text), .int .u8 f.i0, .int .u8 f.i1, .sl 0 []], .bool true], by kernel_rfl, by simp [outA, outV, outL, outC, AV.closed, u8s_closed, closedL], .refl _, rfl⟩
      · simp (maxSteps := 200000) only [hcf, push_cast, List.getD_cons_zero, List.getD_cons_succ, List.take_succ_cons, List.take_zero, List.drop_succ_cons, Nat.reduceLT, Nat.reduceLeDiff, Nat.reduceEqDiff, Nat.reduceAdd, Nat.reduceMul, Nat.reduceSub, Int.reduceToNat, Int.reduceLE, Int.reduceLT, Int.reduceEq, Int.reduceAdd, ↓reduceIte, decide_true, decide_false, and_self]
        refine call_intro (SubsClone_c f.subs h0 hn) (fun h => by cases h) ?_
        simp (maxSteps := 200000) only [hcf, push_cast, List.getD_cons_zero, List.getD_cons_succ, List.take_succ_cons, List.take_zero, List.drop_succ_cons, Nat.reduceLT, Nat.reduceLeDiff, Nat.reduceEqDiff, Nat.reduceAdd, Nat.reduceMul, Nat.reduceSub, Int.reduceToNat, Int.reduceLE, Int.reduceLT, Int.reduceEq, Int.reduceAdd, ↓reduceIte, decide_true, decide_false, and_self]
        refine run_keep (l' := [(31, .int .i64 0), (30, .int .i64 f.subs.length), (5, .bool false), (4, .addr 4 1 0), (2, .addr 2 0 0), (1, .sl T.length (txCells T))]) (t' := [(2, ⟨0, 1, [.str f.tag, .sl f.text.length (u8s f.text), .int .u8 f.i0, .int .u8 f.i1, .own 26 14 0 f.subs.length]⟩), (26, ⟨14, 2, subCells (wsubs f.subs T 0)⟩), (4, ⟨1, 1, [.str [], .nilS, .int .u8 0, .int .u8 0, .nilS]⟩)]) (nx' := _) ⟨.refl _, .refl _, .refl _, .refl _, .refl _, .refl _, trivial⟩ ⟨⟨_, rfl, rfl, rfl, SubL.refl _⟩, ⟨_, rfl, rfl, rfl, by rw [wsubs_zero]; exact SubL.refl _⟩, ⟨_, rfl, rfl, rfl, SubL.refl _⟩, trivial⟩ (Nat.le_refl _) ?_
        refine run_loop (fun n s => ∃ (i nx : Nat), i ≤ f.subs.length ∧ n = f.subs.length - i ∧ s = mkS [(31, .int .i64 i), (30, .int .i64 f.subs.length), (5, .bool false), (4, .addr 4 1 0), (2, .addr 2 0 0), (1, .sl T.length (txCells T))] [(2, ⟨0, 1, [.str f.tag, .sl f.text.length (u8s f.text), .int .u8 f.i0, .int .u8 f.i1, .own 26 14 0 f.subs.length]⟩), (26, ⟨14, 2, subCells (wsubs f.subs T i)⟩), (4, ⟨1, 1, [.str [], .nilS, .int .u8 0, .int .u8 0, .nilS]⟩)] nx) _ ⟨0, _, Nat.zero_le _, rfl, rfl⟩ ?_
        rintro n s ⟨i, nx, hi, rfl, rfl⟩
        have hsl : (subCells (wsubs f.subs T i)).length = f.subs.length * 2 := by rw [subCells_length, wsubs_length f.subs T hTl]
        have htl := txCells_length T
        by_cases h : i < f.subs.length
        · have hiT : i < T.length := by omega
          have hset := wsubs_set f.subs T i h hiT
          have gt := txCells_get T i hiT
          have hpos : 0 < f.subs.length * 2 := by omega
          have hposT : 0 < T.length := by omega
          have l1 : i * 2 + 1 < f.subs.length * 2 := by omega
          have hw : IntKind.i64.wrap ((i : Int) + 1) = ((i + 1 : Nat) : Int) := by rw [wrap_i64 (by omega)]; omega
          have htt := (hT _ (List.getElem_mem hiT)).2
          generalize T[i] = t at *
          have hct' : closedL (u8s t) = true := u8s_closed t
          refine ex_run 40 ?_
          simp (maxSteps := 200000) only [h, hiT, gt, hsl, htl, hpos, hposT, l1, hct', push_cast, List.getD_cons_zero, List.getD_cons_succ, List.take_succ_cons, List.take_zero, List.drop_succ_cons, Nat.reduceLT, Nat.reduceLeDiff, Nat.reduceEqDiff, Nat.reduceAdd, Nat.reduceMul, Nat.reduceSub, Int.reduceToNat, Int.reduceLE, Int.reduceLT, Int.reduceEq, Int.reduceAdd, ↓reduceIte, decide_true, decide_false, and_self]
          refine ⟨by kernel_rfl, ?_⟩
          refine call_introF (Clone_c t (by omega)) (fun h => by cases h) ?_
          simp (maxSteps := 200000) only [hw, h, hsl, hpos, l1, hset, push_cast, List.getD_cons_zero, List.getD_cons_succ, List.take_succ_cons, List.take_zero, List.drop_succ_cons, Nat.reduceLT, Nat.reduceLeDiff, Nat.reduceEqDiff, Nat.reduceAdd, Nat.reduceMul, Nat.reduceSub, Int.reduceToNat, Int.reduceLE, Int.reduceLT, Int.reduceEq, Int.reduceAdd, ↓reduceIte, decide_true, decide_false, and_self]
          refine ⟨by omega, okTr_of (by kernel_rfl), ?_⟩
          refine run_back_le (le_mk (l' := [(31, .int .i64 ((i + 1 : Nat) : Int)), (30, .int .i64 f.subs.length), (5, .bool false), (4, .addr 4 1 0), (2, .addr 2 0 0), (1, .sl T.length (txCells T))]) (t' := [(2, ⟨0, 1, [.str f.tag, .sl f.text.length (u8s f.text), .int .u8 f.i0, .int .u8 f.i1, .own 26 14 0 f.subs.length]⟩), (26, ⟨14, 2, subCells (wsubs f.subs T (i + 1))⟩), (4, ⟨1, 1, [.str [], .nilS, .int .u8 0, .int .u8 0, .nilS]⟩)]) (nx' := _)
            ⟨.of_eq (congrArg (AV.int .i64) (by omega)), .refl _, .refl _, .refl _, .refl _, .refl _, trivial⟩ ⟨⟨_, rfl, rfl, rfl, SubL.refl _⟩, ⟨_, rfl, rfl, rfl, SubL.refl _⟩, ⟨_, rfl, rfl, rfl, SubL.refl _⟩, trivial⟩ (Nat.le_refl _)) ?_
          exact ⟨f.subs.length - (i + 1), by omega, i + 1, _, by omega, rfl, rfl⟩
        · have hie : i = f.subs.length := by omega
          subst hie
          refine ex_run 4 ?_
          simp (maxSteps := 200000) only [h, push_cast, List.getD_cons_zero, List.getD_cons_succ, List.take_succ_cons, List.take_zero, List.drop_succ_cons, Nat.reduceLT, Nat.reduceLeDiff, Nat.reduceEqDiff, Nat.reduceAdd, Nat.reduceMul, Nat.reduceSub, Int.reduceToNat, Int.reduceLE, Int.reduceLT, Int.reduceEq, Int.reduceAdd, ↓reduceIte, decide_true, decide_false, and_self]
          refine Go.Eng.run_freeze (l' := [(5, .bool false), (4, .addr 4 1 0), (2, .addr 2 0 0)]) (tl' := [(2, ⟨0, 1, [.str f.tag, .sl f.text.length (u8s f.text), .int .u8 f.i0, .int .u8 f.i1, .sl f.subs.length (subCells (wsubs f.subs T f.subs.length))]⟩), (4, ⟨1, 1, [.str [], .nilS, .int .u8 0, .int .u8 0, .nilS]⟩)]) 26 ⟨14, 2, subCells (wsubs f.subs T f.subs.length)⟩ rfl ⟨.keep _, .keep _, .keep _, trivial⟩ ⟨by decide, ⟨_, rfl, rfl, rfl, ⟨.keep _, .keep _, .keep _, .keep _, frz_all hsl, trivial⟩⟩, by decide, ⟨_, rfl, rfl, rfl, FrzL.refl _⟩, trivial⟩ ?_
          have hcw : closedL (subCells (wsubs f.subs T f.subs.length)) = true := subCells_closed _
          refine ex_run 40 ?_
          simp (maxSteps := 200000) only [hcw, push_cast, List.getD_cons_zero, List.getD_cons_succ, List.take_succ_cons, List.take_zero, List.drop_succ_cons, Nat.reduceLT, Nat.reduceLeDiff, Nat.reduceEqDiff, Nat.reduceAdd, Nat.reduceMul, Nat.reduceSub, Int.reduceToNat, Int.reduceLE, Int.reduceLT, Int.reduceEq, Int.reduceAdd, ↓reduceIte, decide_true, decide_false, and_self]
          refine call_intro hPr (fun h => by cases h) ?_
          unfold prR
          cases hgd : goodF (withF f T) with
          | false =>
            rw [if_neg (by simp)]
            simp (maxSteps := 200000) only [push_cast, List.getD_cons_zero, List.getD_cons_succ, List.take_succ_cons, List.take_zero, List.drop_succ_cons, Nat.reduceLT, Nat.reduceLeDiff, Nat.reduceEqDiff, Nat.reduceAdd, Nat.reduceMul, Nat.reduceSub, Int.reduceToNat, Int.reduceLE, Int.reduceLT, Int.reduceEq, Int.reduceAdd, ↓reduceIte, decide_true, decide_false, and_self]
            unfold withR mayW
            rw [hgd, Bool.and_false, if_neg (by simp)]
            exact ⟨[.agg [.str [], .nilS, .int .u8 0, .int .u8 0, .nilS], .bool false], [.agg [.str [], .nilS, .int .u8 0, .int .u8 0, .nilS], .bool false], by kernel_rfl, by simp [outA, outV, outL, outC, AV.closed], sub_tup (ds := [.agg (fCells zeroF), .bool false]) ⟨sub_agg ⟨.refl _, .nil, .refl _, .refl _, .nil, trivial⟩, .refl _, trivial⟩, rfl⟩
          | true =>
            rw [if_pos rfl]
            simp (maxSteps := 200000) only [push_cast, List.getD_cons_zero, List.getD_cons_succ, List.take_succ_cons, List.take_zero, List.drop_succ_cons, Nat.reduceLT, Nat.reduceLeDiff, Nat.reduceEqDiff, Nat.reduceAdd, Nat.reduceMul, Nat.reduceSub, Int.reduceToNat, Int.reduceLE, Int.reduceLT, Int.reduceEq, Int.reduceAdd, ↓reduceIte, decide_true, decide_false, and_self]
            unfold withR mayW
            rw [hgd, decide_eq_true hlen, if_pos (by rfl), hgc]
            exact ⟨[.agg [.str f.tag, .sl f.text.length (u8s f.text), .int .u8 f.i0, .int .u8 f.i1, .sl f.subs.length (subCells (wsubs f.subs T f.subs.length))], .bool true], [.agg [.str f.tag, .sl f.text.length (u8s f.text), .int .u8 f.i0, .int .u8 f.i1, .sl f.subs.length (subCells (wsubs f.subs T f.subs.length))], .bool true], by kernel_rfl, by simp [outA, outV, outL, outC, AV.closed, u8s_closed, hcw], .refl _, rfl⟩
  · have hlen' : ¬ (T.length : Int) = ((textsOf f).length : Int) := by omega
    simp (maxSteps := 200000) only [hcf, hcu, hlen', push_cast, List.getD_cons_zero, List.getD_cons_succ, List.take_succ_cons, List.take_zero, List.drop_succ_cons, Nat.reduceLT, Nat.reduceLeDiff, Nat.reduceEqDiff, Nat.reduceAdd, Nat.reduceMul, Nat.reduceSub, Int.reduceToNat, Int.reduceLE, Int.reduceLT, Int.reduceEq, Int.reduceAdd, ↓reduceIte, decide_true, decide_false, and_self]
    unfold withR mayW
    rw [decide_eq_false hlen, Bool.false_and, if_neg (by simp)]
    exact ⟨[.agg [.str [], .nilS, .int .u8 0, .int .u8 0, .nilS], .bool false], [.agg [.str [], .nilS, .int .u8 0, .int .u8 0, .nilS], .bool false], by kernel_rfl, by simp [outA, outV, outL, outC, AV.closed], sub_tup (ds := [.agg (fCells zeroF), .bool false]) ⟨sub_agg ⟨.refl _, .nil, .refl _, .refl _, .nil, trivial⟩, .refl _, trivial⟩, rfl⟩
end Go.Proofs.Yteapibifebnboaa

/- The law FieldTexts: at every argument it returns true. -/
set_option linter.unusedVariables false
set_option linter.unusedSimpArgs false
namespace Go.Proofs.Yteapibifebnboaa
open Go Go.Eng
def one0 (t : List Int) : List Int := 0 :: t
def sumTo (T : List (List Int)) (i : Nat) : Nat := ((T.take i).flatMap one0).length
def sumT (T : List (List Int)) : Nat := (T.flatMap one0).length
theorem sumTo_le (T : List (List Int)) (i : Nat) : sumTo T i ≤ sumT T := by
  unfold sumTo sumT
  conv => rhs; rw [← List.take_append_drop i T, List.flatMap_append, List.length_append]
  omega
theorem sumTo_succ (T : List (List Int)) (i : Nat) (hi : i < T.length) : sumTo T (i + 1) = sumTo T i + 1 + T[i].length := by
  unfold sumTo; rw [List.take_add_one, List.getElem?_eq_getElem hi, List.flatMap_append, List.length_append]; simp [one0]; omega
theorem sumT_mem {T : List (List Int)} {t : List Int} (h : t ∈ T) : t.length ≤ sumT T := by
  unfold sumT
  obtain ⟨a, b, rfl⟩ := List.append_of_mem h
  simp [one0]; omega
theorem sumT_cnt : ∀ T : List (List Int), T.length ≤ sumT T
  | [] => by simp
  | t :: T => by have := sumT_cnt T; unfold sumT at *; rw [List.flatMap_cons, List.length_append, List.length_cons]; simp only [one0, List.length_cons]; omega
theorem zip_len : ∀ (L : List SubV) (T : List (List Int)), ((List.zipWith (fun (s : SubV) t => ((s.1, t) : SubV)) L T).flatMap subB).length ≤ 2 * sumT T
  | [], T => by simp
  | s :: L, [] => by simp
  | s :: L, t :: T => by
    have := zip_len L T
    unfold sumT at *
    rw [List.zipWith_cons_cons, List.flatMap_cons, List.flatMap_cons, List.length_append, List.length_append]
    simp only [subB, one0, List.length_cons]
    omega
theorem fbytes_with (f : FV) (T : List (List Int)) : (fbytes (withF f T)).length ≤ 2 * sumT T + 2 + tot f := by
  unfold withF
  split
  · rename_i hc
    unfold fbytes
    rw [if_pos hc]
    show (T.getD 0 []).length ≤ _
    cases T with
    | nil => simp
    | cons t T => have := sumT_mem (T := t :: T) (List.mem_cons_self ..); simp only [List.getD_cons_zero]; omega
  · rename_i hc
    unfold fbytes
    rw [if_neg hc]
    show (f.i0 :: f.i1 :: (wsubs f.subs T f.subs.length).flatMap subB).length ≤ _
    unfold wsubs
    rw [List.take_length, List.drop_length, List.append_nil]
    have := zip_len f.subs (T.take f.subs.length)
    have h2 : sumT (T.take f.subs.length) ≤ sumT T := sumTo_le T f.subs.length
    simp only [List.length_cons]
    omega
def zp (L : List SubV) (T : List (List Int)) (k : Nat) : List SubV := List.zipWith (fun s t => (s.1, t)) (L.take k) (T.take k)
theorem zp_length (L : List SubV) (T : List (List Int)) (k : Nat) (h : k ≤ L.length) (h2 : k ≤ T.length) : (zp L T k).length = k := by simp [zp]; omega
theorem zp_succ (L : List SubV) (T : List (List Int)) (k : Nat) (h : k < L.length) (h2 : k < T.length) : subCells (zp L T (k + 1)) = subCells (zp L T k) ++ [.int .u8 L[k].1, .sl T[k].length (u8s T[k])] := by
  unfold zp
  rw [List.take_add_one, List.take_add_one, List.getElem?_eq_getElem h, List.getElem?_eq_getElem h2, List.zipWith_append (by simp; omega), subCells_append]
  rfl
def withX (f : FV) (T : List (List Int)) : FV := if mayW f T = true then withF f T else zeroF
theorem withR_eq (f : FV) (T : List (List Int)) : withR f T = .tup [.agg (fCells (withX f T)), .bool (mayW f T)] := by
  unfold withR withX
  cases mayW f T <;> rfl
theorem rsame_zero : ACall Try.prog 29 [.agg [.str [], .sl 0 [], .int .u8 0, .int .u8 0, .sl 0 []], .agg [.str [], .sl 0 [], .int .u8 0, .int .u8 0, .sl 0 []]] (.bool true) none := by
  have := rsame_c zeroF zeroF (by decide) (by intro s hs; cases hs) (by decide)
  rw [sameB_refl] at this
  exact this
set_option maxRecDepth 100000 in
set_option maxHeartbeats 8000000 in
theorem FieldTexts_c (f : FV) (T : List (List Int)) (h1 : f.tag.length ≤ 140737488351232) (h2 : f.text.length ≤ 140737488351232) (h3 : ∀ s ∈ f.subs, s.2.length ≤ 140737488351232) (h4 : f.subs.length ≤ 140737488351232) (hF : FB f)
    (hT : ∀ t ∈ T, inB t ∧ t.length ≤ 140737488351232) (hTn : T.length ≤ 140737488351232) :
    ACall Try.prog 9 [.agg (fCells f), .sl T.length (txCells T)] (.bool true) none := by
  have hcl : closedL (subCells f.subs) = true := subCells_closed _
  have hct : closedL (txCells T) = true := txCells_closed _
  have htl := txCells_length T
  refine acall_intro none Try.func9 rfl (by kernel_rfl) (by simp [Try.f9]) ?_
  refine ex_run 30 ?_
  simp (maxSteps := 200000) only [Try.f9, fCells, hcl, hct, push_cast, List.getD_cons_zero, List.getD_cons_succ, List.take_succ_cons, List.take_zero, List.drop_succ_cons, Nat.reduceLT, Nat.reduceLeDiff, Nat.reduceEqDiff, Nat.reduceAdd, Nat.reduceMul, Nat.reduceSub, Int.reduceToNat, Int.reduceLE, Int.reduceLT, Int.reduceEq, Int.reduceAdd, ↓reduceIte, decide_true, decide_false, and_self]
  refine run_keep (l' := [(6, .int .i64 0), (5, .int .i64 (sumTo T 0 : Nat)), (4, .bool false), (2, .addr 2 0 0), (1, .sl T.length (txCells T))]) (t' := [(2, ⟨0, 1, fCells f⟩)]) (nx' := _) ⟨.refl _, .refl _, .refl _, .refl _, .refl _, trivial⟩ ⟨⟨_, rfl, rfl, rfl, SubL.refl _⟩, trivial⟩ (Nat.le_refl _) ?_
  refine run_loop (fun n s => ∃ (i nx : Nat), i ≤ T.length ∧ n = T.length - i ∧ sumTo T i ≤ 300000000000000 ∧ s = mkS [(6, .int .i64 i), (5, .int .i64 (sumTo T i : Nat)), (4, .bool false), (2, .addr 2 0 0), (1, .sl T.length (txCells T))] [(2, ⟨0, 1, fCells f⟩)] nx) _ ⟨0, _, Nat.zero_le _, rfl, by simp [sumTo], rfl⟩ ?_
  rintro n s ⟨i, nx, hi, rfl, hb, rfl⟩
  have hle := sumTo_le T i
  by_cases h20 : sumTo T i < 5000
  · by_cases h : i < T.length
    · have gt := txCells_get T i h
      have hpos : 0 < T.length := by omega
      have hsucc := sumTo_succ T i h
      have hlen := (hT _ (List.getElem_mem h)).2
      have hw : IntKind.i64.wrap ((i : Int) + 1) = ((i + 1 : Nat) : Int) := by rw [wrap_i64 (by omega)]; omega
      generalize T[i] = t at *
      generalize hm2 : sumTo T (i + 1) = m2 at *
      generalize hm : sumTo T i = m at *
      have w1 : IntKind.i64.wrap ((m : Int) + 1) = (m : Int) + 1 := wrap_i64 (by omega)
      have w2 : IntKind.i64.wrap ((m : Int) + 1 + (t.length : Int)) = (m2 : Int) := by rw [wrap_i64 (by omega)]; omega
      have h20' : (m : Int) < 5000 := by omega
      refine ex_run 30 ?_
      simp (maxSteps := 200000) only [fCells, h, h20', gt, htl, hpos, hw, w1, w2, push_cast, List.getD_cons_zero, List.getD_cons_succ, List.take_succ_cons, List.take_zero, List.drop_succ_cons, Nat.reduceLT, Nat.reduceLeDiff, Nat.reduceEqDiff, Nat.reduceAdd, Nat.reduceMul, Nat.reduceSub, Int.reduceToNat, Int.reduceLE, Int.reduceLT, Int.reduceEq, Int.reduceAdd, ↓reduceIte, decide_true, decide_false, and_self]
      refine run_back_le (le_mk (l' := [(6, .int .i64 ((i + 1 : Nat) : Int)), (5, .int .i64 m2), (4, .bool false), (2, .addr 2 0 0), (1, .sl T.length (txCells T))]) (t' := [(2, ⟨0, 1, fCells f⟩)]) (nx' := _) ⟨.of_eq (congrArg (AV.int .i64) (by omega)), .refl _, .refl _, .refl _, .refl _, trivial⟩ ⟨⟨_, rfl, rfl, rfl, SubL.refl _⟩, trivial⟩ (Nat.le_refl _)) ?_
      exact ⟨T.length - (i + 1), by omega, i + 1, _, by omega, rfl, by rw [hm2]; omega, by rw [hm2]; rfl⟩
    · have hie : i = T.length := by omega
      have hv : sumTo T i = sumT T := by rw [hie]; unfold sumTo sumT; rw [List.take_length]
      rw [hv] at h20 ⊢
      have h20' : ¬ (5000 : Int) ≤ (sumT T : Int) := by omega
      refine ex_run 30 ?_
      simp (maxSteps := 200000) only [fCells, hcl, hct, h, h20', push_cast, List.getD_cons_zero, List.getD_cons_succ, List.take_succ_cons, List.take_zero, List.drop_succ_cons, Nat.reduceLT, Nat.reduceLeDiff, Nat.reduceEqDiff, Nat.reduceAdd, Nat.reduceMul, Nat.reduceSub, Int.reduceToNat, Int.reduceLE, Int.reduceLT, Int.reduceEq, Int.reduceAdd, ↓reduceIte, decide_true, decide_false, and_self]
      refine call_intro (small_c f h1 h2 h3 h4) (fun h => by cases h) ?_
      by_cases hsm : tot f < 20000
      · rw [decide_eq_true hsm]
        simp (maxSteps := 200000) only [hcl, hct, h20', push_cast, List.getD_cons_zero, List.getD_cons_succ, List.take_succ_cons, List.take_zero, List.drop_succ_cons, Nat.reduceLT, Nat.reduceLeDiff, Nat.reduceEqDiff, Nat.reduceAdd, Nat.reduceMul, Nat.reduceSub, Int.reduceToNat, Int.reduceLE, Int.reduceLT, Int.reduceEq, Int.reduceAdd, ↓reduceIte, decide_true, decide_false, and_self]
        have hcnt := flat_cnt f.subs
        have hn : f.subs.length ≤ 20000 := by unfold tot at hsm; omega
        have hcu : closedL (txCells (textsOf f)) = true := txCells_closed _
        refine ⟨by kernel_rfl, ?_⟩
        refine call_introF (Texts_c f (by omega) (by omega) (fun s hs => by have := h3 s hs; omega) (by omega)) (fun h => by cases h) ?_
        simp (maxSteps := 200000) only [hcl, hct, hcu, fCells, push_cast, List.getD_cons_zero, List.getD_cons_succ, List.take_succ_cons, List.take_zero, List.drop_succ_cons, Nat.reduceLT, Nat.reduceLeDiff, Nat.reduceEqDiff, Nat.reduceAdd, Nat.reduceMul, Nat.reduceSub, Int.reduceToNat, Int.reduceLE, Int.reduceLT, Int.reduceEq, Int.reduceAdd, ↓reduceIte, decide_true, decide_false, and_self]
        refine call_introF (rtexts_c f (by omega) (by omega)) (fun h => by cases h) ?_
        simp (maxSteps := 200000) only [hcl, hct, hcu, push_cast, List.getD_cons_zero, List.getD_cons_succ, List.take_succ_cons, List.take_zero, List.drop_succ_cons, Nat.reduceLT, Nat.reduceLeDiff, Nat.reduceEqDiff, Nat.reduceAdd, Nat.reduceMul, Nat.reduceSub, Int.reduceToNat, Int.reduceLE, Int.reduceLT, Int.reduceEq, Int.reduceAdd, ↓reduceIte, decide_true, decide_false, and_self]
        refine ⟨okTr_of (by kernel_rfl), ?_⟩
        refine call_intro answers21_c (fun h => by cases h) ?_
        simp (maxSteps := 200000) only [hcl, hct, hcu, beq_self_eq_true, Bool.not_true, push_cast, List.getD_cons_zero, List.getD_cons_succ, List.take_succ_cons, List.take_zero, List.drop_succ_cons, Nat.reduceLT, Nat.reduceLeDiff, Nat.reduceEqDiff, Nat.reduceAdd, Nat.reduceMul, Nat.reduceSub, Int.reduceToNat, Int.reduceLE, Int.reduceLT, Int.reduceEq, Int.reduceAdd, ↓reduceIte, decide_true, decide_false, and_self]
        have hU : ∀ t ∈ textsOf f, t.length ≤ 140737488351232 := by
          intro t ht
          unfold textsOf at ht
          split at ht
          · rw [List.mem_singleton] at ht; subst ht; exact h2
          · obtain ⟨s, hs, rfl⟩ := List.mem_map.1 ht; exact h3 s hs
        have hUn : (textsOf f).length ≤ 20001 := by unfold textsOf; split <;> simp <;> omega
        have hulen := txCells_length (textsOf f)
        refine run_keep (l' := [(9, .int .i64 0), (8, .sl (textsOf f).length (txCells (textsOf f))), (7, .sl (textsOf f).length (txCells (textsOf f))), (4, .bool false), (2, .addr 2 0 0), (1, .sl T.length (txCells T))]) (t' := [(2, ⟨0, 1, fCells f⟩)]) (nx' := _) ⟨.refl _, .refl _, .refl _, .refl _, .refl _, .refl _, trivial⟩ ⟨⟨_, rfl, rfl, rfl, SubL.refl _⟩, trivial⟩ (Nat.le_refl _) ?_
        refine run_loop (fun n s => ∃ (j nx : Nat), j ≤ (textsOf f).length ∧ n = (textsOf f).length - j ∧ s = mkS [(9, .int .i64 j), (8, .sl (textsOf f).length (txCells (textsOf f))), (7, .sl (textsOf f).length (txCells (textsOf f))), (4, .bool false), (2, .addr 2 0 0), (1, .sl T.length (txCells T))] [(2, ⟨0, 1, fCells f⟩)] nx) _ ⟨0, _, Nat.zero_le _, rfl, rfl⟩ ?_
        rintro n s ⟨j, nx, hj, rfl, rfl⟩
        by_cases hjl : j < (textsOf f).length
        · have gt := txCells_get (textsOf f) j hjl
          have hpos : 0 < (textsOf f).length := by omega
          have hlen := hU _ (List.getElem_mem hjl)
          have hw : IntKind.i64.wrap ((j : Int) + 1) = ((j + 1 : Nat) : Int) := by rw [wrap_i64 (by omega)]; omega
          generalize (textsOf f)[j] = t at *
          refine ex_run 30 ?_
          simp (maxSteps := 200000) only [fCells, hjl, gt, hulen, hpos, push_cast, List.getD_cons_zero, List.getD_cons_succ, List.take_succ_cons, List.take_zero, List.drop_succ_cons, Nat.reduceLT, Nat.reduceLeDiff, Nat.reduceEqDiff, Nat.reduceAdd, Nat.reduceMul, Nat.reduceSub, Int.reduceToNat, Int.reduceLE, Int.reduceLT, Int.reduceEq, Int.reduceAdd, ↓reduceIte, decide_true, decide_false, and_self]
          refine ⟨by kernel_rfl, ?_⟩
          refine call_introF (same_c t t (by omega)) (fun h => by cases h) ?_
          rw [beq_self_eq_true]
          simp (maxSteps := 200000) only [fCells, hjl, gt, hulen, hpos, hw, push_cast, List.getD_cons_zero, List.getD_cons_succ, List.take_succ_cons, List.take_zero, List.drop_succ_cons, Nat.reduceLT, Nat.reduceLeDiff, Nat.reduceEqDiff, Nat.reduceAdd, Nat.reduceMul, Nat.reduceSub, Int.reduceToNat, Int.reduceLE, Int.reduceLT, Int.reduceEq, Int.reduceAdd, ↓reduceIte, decide_true, decide_false, and_self]
          refine ⟨okTr_of (by kernel_rfl), ?_⟩
          refine run_back_le (le_mk (l' := [(9, .int .i64 ((j + 1 : Nat) : Int)), (8, .sl (textsOf f).length (txCells (textsOf f))), (7, .sl (textsOf f).length (txCells (textsOf f))), (4, .bool false), (2, .addr 2 0 0), (1, .sl T.length (txCells T))]) (t' := [(2, ⟨0, 1, fCells f⟩)]) (nx' := _) ⟨.of_eq (congrArg (AV.int .i64) (by omega)), .refl _, .refl _, .refl _, .refl _, .refl _, trivial⟩ ⟨⟨_, rfl, rfl, rfl, SubL.refl _⟩, trivial⟩ (Nat.le_refl _)) ?_
          exact ⟨(textsOf f).length - (j + 1), by omega, j + 1, _, by omega, rfl, rfl⟩
        · have hW := With_c f T hF (fun t ht => ⟨(hT t ht).1, by have := sumT_mem ht; omega⟩) (by have := sumT_cnt T; omega) (by omega) (by omega) (fun s hs => by have := h3 s hs; omega) (by omega) (fun _ => by have := fbytes_with f T; omega)
          refine ex_run 30 ?_
          simp (maxSteps := 200000) only [fCells, hcl, hct, hcu, hjl, push_cast, List.getD_cons_zero, List.getD_cons_succ, List.take_succ_cons, List.take_zero, List.drop_succ_cons, Nat.reduceLT, Nat.reduceLeDiff, Nat.reduceEqDiff, Nat.reduceAdd, Nat.reduceMul, Nat.reduceSub, Int.reduceToNat, Int.reduceLE, Int.reduceLT, Int.reduceEq, Int.reduceAdd, ↓reduceIte, decide_true, decide_false, and_self]
          refine call_intro hW (fun h => by cases h) ?_
          rw [withR_eq]
          have hX1 : mayW f T = true → withX f T = withF f T := fun h => by unfold withX; rw [h, if_pos rfl]
          have hX0 : mayW f T = false → withX f T = zeroF := fun h => by unfold withX; rw [h, if_neg (by simp)]
          by_cases hlen : T.length = (textsOf f).length
          · have hlen' : (T.length : Int) = ((textsOf f).length : Int) := by omega
            have hmg : mayW f T = goodF (withF f T) := by unfold mayW; rw [decide_eq_true hlen, Bool.true_and]
            have hfw := fbytes_with f T
            have hgw : ∀ (q1 : (withF f T).text.length ≤ 9223372036854775807) (q2 : ∀ s ∈ (withF f T).subs, s.2.length ≤ 9223372036854775807) (q3 : (withF f T).subs.length ≤ 9223372036854775806) (q4 : (withF f T).tag = f.tag), ACall Try.prog 22 [.agg (fCells (withF f T))] (.bool (mayW f T)) none := fun q1 q2 q3 q4 => by
              rw [hmg]; exact good_c (withF f T) (by rw [q4]; omega) q1 q2 q3 (by omega)
            generalize hX : withX f T = X at *
            generalize hm : mayW f T = m at *
            have hcX : closedL (subCells X.subs) = true := subCells_closed _
            cases hc : List.isPrefixOf [48, 48] f.tag with
            | true =>
              have hTe : textsOf f = [f.text] := by unfold textsOf; rw [if_pos (show ctl f.tag = true from hc)]
              obtain ⟨t, rfl⟩ : ∃ t, T = [t] := by
                rw [hTe] at hlen
                cases T with
                | nil => simp at hlen
                | cons t T => cases T with
                  | nil => exact ⟨t, rfl⟩
                  | cons u T => simp at hlen
              have hwf : withF f [t] = ⟨f.tag, t, f.i0, f.i1, f.subs⟩ := by unfold withF; rw [if_pos (show ctl f.tag = true from hc)]; rfl
              rw [hwf] at hgw hX1
              have hG := hgw (by have := (hT t (List.mem_cons_self ..)).2; show t.length ≤ _; omega) (fun s hs => by have := h3 s hs; omega) (by show f.subs.length ≤ _; omega) rfl
              simp only [fCells] at hG
              have hlu : (textsOf f).length = 1 := by rw [hTe]; rfl
              simp (maxSteps := 200000) only [fCells, hcl, hct, hcu, hcX, hlu, txCells, tx1, List.map_cons, List.map_nil, List.length_cons, List.length_nil, push_cast, List.getD_cons_zero, List.getD_cons_succ, List.take_succ_cons, List.take_zero, List.drop_succ_cons, Nat.reduceLT, Nat.reduceLeDiff, Nat.reduceEqDiff, Nat.reduceAdd, Nat.reduceMul, Nat.reduceSub, Int.reduceToNat, Int.reduceLE, Int.reduceLT, Int.reduceEq, Int.reduceAdd, ↓reduceIte, decide_true, decide_false, and_self]
              refine call_intro (RControl_c f.tag (by omega)) (fun h => by cases h) ?_
              rw [hc]
              simp (maxSteps := 200000) only [fCells, hcl, hct, hcu, hcX, push_cast, List.getD_cons_zero, List.getD_cons_succ, List.take_succ_cons, List.take_zero, List.drop_succ_cons, Nat.reduceLT, Nat.reduceLeDiff, Nat.reduceEqDiff, Nat.reduceAdd, Nat.reduceMul, Nat.reduceSub, Int.reduceToNat, Int.reduceLE, Int.reduceLT, Int.reduceEq, Int.reduceAdd, ↓reduceIte, decide_true, decide_false, and_self]
              have hS := rsame_c ⟨f.tag, t, f.i0, f.i1, f.subs⟩ ⟨f.tag, t, f.i0, f.i1, f.subs⟩ (by have := (hT t (List.mem_cons_self ..)).2; show t.length ≤ _; omega) (fun s hs => by have := h3 s hs; omega) (by show f.subs.length ≤ _; omega)
              rw [sameB_refl] at hS
              simp only [fCells] at hS
              refine call_intro hG (fun h => by cases h) ?_
              cases m with
              | true =>
                have hXe := hX1 rfl
                subst hXe
                simp (maxSteps := 200000) only [fCells, hcl, hct, hcu, hcX, hcl, push_cast, List.getD_cons_zero, List.getD_cons_succ, List.take_succ_cons, List.take_zero, List.drop_succ_cons, Nat.reduceLT, Nat.reduceLeDiff, Nat.reduceEqDiff, Nat.reduceAdd, Nat.reduceMul, Nat.reduceSub, Int.reduceToNat, Int.reduceLE, Int.reduceLT, Int.reduceEq, Int.reduceAdd, ↓reduceIte, decide_true, decide_false, and_self]
                refine call_intro hS (fun h => by cases h) ?_
                simp (maxSteps := 200000) only [fCells, hcl, hct, hcu, hcX, hcl, push_cast, List.getD_cons_zero, List.getD_cons_succ, List.take_succ_cons, List.take_zero, List.drop_succ_cons, Nat.reduceLT, Nat.reduceLeDiff, Nat.reduceEqDiff, Nat.reduceAdd, Nat.reduceMul, Nat.reduceSub, Int.reduceToNat, Int.reduceLE, Int.reduceLT, Int.reduceEq, Int.reduceAdd, ↓reduceIte, decide_true, decide_false, and_self]
                exact ⟨_, _, rfl, rfl, .refl _, rfl⟩
              | false =>
                have hXe := hX0 rfl
                subst hXe
                simp (maxSteps := 200000) only [fCells, zeroF, subCells_nil, u8s_nil, hcl, hct, hcu, hcl, push_cast, List.getD_cons_zero, List.getD_cons_succ, List.take_succ_cons, List.take_zero, List.drop_succ_cons, Nat.reduceLT, Nat.reduceLeDiff, Nat.reduceEqDiff, Nat.reduceAdd, Nat.reduceMul, Nat.reduceSub, Int.reduceToNat, Int.reduceLE, Int.reduceLT, Int.reduceEq, Int.reduceAdd, ↓reduceIte, decide_true, decide_false, and_self]
                refine call_intro rsame_zero (fun h => by cases h) ?_
                simp (maxSteps := 200000) only [push_cast, List.getD_cons_zero, List.getD_cons_succ, List.take_succ_cons, List.take_zero, List.drop_succ_cons, Nat.reduceLT, Nat.reduceLeDiff, Nat.reduceEqDiff, Nat.reduceAdd, Nat.reduceMul, Nat.reduceSub, Int.reduceToNat, Int.reduceLE, Int.reduceLT, Int.reduceEq, Int.reduceAdd, ↓reduceIte, decide_true, decide_false, and_self]
                exact ⟨_, _, rfl, rfl, .refl _, rfl⟩
            | false =>
              have hTe : (textsOf f).length = f.subs.length := by unfold textsOf; rw [if_neg (by show ¬ ctl f.tag = true; unfold ctl; rw [hc]; simp), List.length_map]
              have hTl : T.length = f.subs.length := by omega
              simp (maxSteps := 200000) only [fCells, hcl, hct, hcu, hcX, hlen', push_cast, List.getD_cons_zero, List.getD_cons_succ, List.take_succ_cons, List.take_zero, List.drop_succ_cons, Nat.reduceLT, Nat.reduceLeDiff, Nat.reduceEqDiff, Nat.reduceAdd, Nat.reduceMul, Nat.reduceSub, Int.reduceToNat, Int.reduceLE, Int.reduceLT, Int.reduceEq, Int.reduceAdd, ↓reduceIte, decide_true, decide_false, and_self]
              refine call_intro (RControl_c f.tag (by omega)) (fun h => by cases h) ?_
              rw [hc]
              simp (maxSteps := 200000) only [fCells, hcl, hct, hcu, hcX, push_cast, List.getD_cons_zero, List.getD_cons_succ, List.take_succ_cons, List.take_zero, List.drop_succ_cons, Nat.reduceLT, Nat.reduceLeDiff, Nat.reduceEqDiff, Nat.reduceAdd, Nat.reduceMul, Nat.reduceSub, Int.reduceToNat, Int.reduceLE, Int.reduceLT, Int.reduceEq, Int.reduceAdd, ↓reduceIte, decide_true, decide_false, and_self]
              have hwf : withF f T = ⟨f.tag, f.text, f.i0, f.i1, wsubs f.subs T f.subs.length⟩ := by unfold withF; rw [if_neg (by show ¬ ctl f.tag = true; unfold ctl; rw [hc]; simp)]
              have hwl := wsubs_length f.subs T hTl f.subs.length
              have hws : ∀ s ∈ wsubs f.subs T f.subs.length, s.2.length ≤ 9223372036854775807 := fun s hs => by
                obtain ⟨a, ha, t, htm, rfl⟩ := wsubs_mem hs
                have := (hT t htm).2
                show t.length ≤ _; omega
              rw [hwf] at hgw hX1
              have hG := hgw (by show f.text.length ≤ _; omega) hws (by show (wsubs f.subs T f.subs.length).length ≤ _; omega) rfl
              have hS := rsame_c ⟨f.tag, f.text, f.i0, f.i1, wsubs f.subs T f.subs.length⟩ ⟨f.tag, f.text, f.i0, f.i1, wsubs f.subs T f.subs.length⟩ (by show f.text.length ≤ _; omega) hws (by show (wsubs f.subs T f.subs.length).length ≤ _; omega)
              rw [sameB_refl] at hS
              simp only [fCells, hwl] at hG hS
              generalize nx + 4 + 9 + 1 + 1 + 1 + 1 + 1 + 1 + 1 = g12
              generalize nx + 4 + 1 + 1 + 1 + 1 + 1 + 1 = g10
              refine run_lazyCell 12 4 100 2 ⟨g12, 1, [.str f.tag, .sl f.text.length (u8s f.text), .int .u8 f.i0, .int .u8 f.i1, .nilS]⟩ rfl rfl (by decide) ?_
              refine run_keep (l' := [(13, .int .i64 0), (12, .addr 12 g12 0), (11, .bool m), (10, .addr 10 g10 0), (8, .sl (textsOf f).length (txCells (textsOf f))), (4, .bool false), (2, .addr 2 0 0), (1, .sl T.length (txCells T))]) (t' := [(12, ⟨g12, 1, [.str f.tag, .sl f.text.length (u8s f.text), .int .u8 f.i0, .int .u8 f.i1, .own 100 _ 0 0]⟩), (100, ⟨_, 2, subCells (zp f.subs T 0)⟩), (10, ⟨g10, 1, fCells X⟩), (2, ⟨0, 1, fCells f⟩)]) (nx' := _) ⟨.refl _, .refl _, .refl _, .refl _, .refl _, .refl _, .refl _, .refl _, trivial⟩ ⟨⟨_, rfl, rfl, rfl, SubL.refl _⟩, ⟨_, rfl, rfl, rfl, SubL.refl _⟩, ⟨_, rfl, rfl, rfl, SubL.refl _⟩, ⟨_, rfl, rfl, rfl, SubL.refl _⟩, trivial⟩ (Nat.le_refl _) ?_
              refine run_loop (fun n s => ∃ (k gs nx : Nat), k ≤ T.length ∧ n = T.length - k ∧ s = mkS [(13, .int .i64 k), (12, .addr 12 g12 0), (11, .bool m), (10, .addr 10 g10 0), (8, .sl (textsOf f).length (txCells (textsOf f))), (4, .bool false), (2, .addr 2 0 0), (1, .sl T.length (txCells T))] [(12, ⟨g12, 1, [.str f.tag, .sl f.text.length (u8s f.text), .int .u8 f.i0, .int .u8 f.i1, .own 100 gs 0 k]⟩), (100, ⟨gs, 2, subCells (zp f.subs T k)⟩), (10, ⟨g10, 1, fCells X⟩), (2, ⟨0, 1, fCells f⟩)] nx) _ ⟨0, _, _, Nat.zero_le _, rfl, rfl⟩ ?_
              rintro n s ⟨k, gs, nx, hk, rfl, rfl⟩
              have hzl : (subCells (zp f.subs T k)).length = k * 2 := by rw [subCells_length, zp_length f.subs T k (by omega) hk]
              by_cases hkl : k < T.length
              · have hkf : k < f.subs.length := by omega
                have g0 := subCells_get f.subs k 0 hkf (by omega)
                have gt := txCells_get T k hkl
                have hsl := subCells_length f.subs
                have hpos : 0 < f.subs.length * 2 := by omega
                have hposT : 0 < T.length := by omega
                have l0 : k * 2 < f.subs.length * 2 := by omega
                have hw : IntKind.i64.wrap ((k : Int) + 1) = ((k + 1 : Nat) : Int) := by rw [wrap_i64 (by omega)]; omega
                have hzs := zp_succ f.subs T k hkf hkl
                have hTT := (hT _ (List.getElem_mem hkl)).2
                generalize T[k] = t at *
                generalize f.subs[k] = q at *
                obtain ⟨c, tx⟩ := q
                simp only [sCells, List.getD_cons_zero, Nat.add_zero] at g0
                simp only at hzs
                have hct' : closedL (u8s t) = true := u8s_closed t
                refine ex_run 50 ?_
                simp (maxSteps := 200000) only [fCells, hkl, hkf, g0, gt, hsl, htl, hpos, hposT, l0, hct', hzl, hw, push_cast, List.getD_cons_zero, List.getD_cons_succ, List.take_succ_cons, List.take_zero, List.drop_succ_cons, Nat.reduceLT, Nat.reduceLeDiff, Nat.reduceEqDiff, Nat.reduceAdd, Nat.reduceMul, Nat.reduceSub, Int.reduceToNat, Int.reduceLE, Int.reduceLT, Int.reduceEq, Int.reduceAdd, ↓reduceIte, decide_true, decide_false, and_self]
                have hcT := sumT_cnt T
                refine ⟨by kernel_rfl, ⟨by omega, by omega⟩, okTr_of (by kernel_rfl), ?_⟩
                rw [← hzs]
                refine run_back_le (le_mk (l' := [(13, .int .i64 ((k + 1 : Nat) : Int)), (12, .addr 12 g12 0), (11, .bool m), (10, .addr 10 g10 0), (8, .sl (textsOf f).length (txCells (textsOf f))), (4, .bool false), (2, .addr 2 0 0), (1, .sl T.length (txCells T))]) (t' := [(12, ⟨g12, 1, [.str f.tag, .sl f.text.length (u8s f.text), .int .u8 f.i0, .int .u8 f.i1, .own 100 _ 0 (k + 1)]⟩), (100, ⟨_, 2, subCells (zp f.subs T (k + 1))⟩), (10, ⟨g10, 1, fCells X⟩), (2, ⟨0, 1, fCells f⟩)]) (nx' := _) ⟨.of_eq (congrArg (AV.int .i64) (by omega)), .refl _, .refl _, .refl _, .refl _, .refl _, .refl _, .refl _, trivial⟩ ⟨⟨_, rfl, rfl, rfl, SubL.refl _⟩, ⟨_, rfl, rfl, rfl, SubL.refl _⟩, ⟨_, rfl, rfl, rfl, SubL.refl _⟩, ⟨_, rfl, rfl, rfl, SubL.refl _⟩, trivial⟩ (Nat.le_refl _)) ?_
                exact ⟨T.length - (k + 1), by omega, k + 1, _, _, by omega, rfl, rfl⟩
              · have hke : k = T.length := by omega
                have hzw : zp f.subs T k = wsubs f.subs T f.subs.length := by rw [hke, hTl]; unfold zp wsubs; rw [List.drop_length, List.append_nil]
                rw [hzw] at hzl ⊢
                have hkn : k = f.subs.length := by omega
                rw [hkn] at hzl ⊢
                refine ex_run 4 ?_
                have hkl' : ¬ (f.subs.length : Int) < (T.length : Int) := by omega
                simp (maxSteps := 200000) only [fCells, hkl', push_cast, List.getD_cons_zero, List.getD_cons_succ, List.take_succ_cons, List.take_zero, List.drop_succ_cons, Nat.reduceLT, Nat.reduceLeDiff, Nat.reduceEqDiff, Nat.reduceAdd, Nat.reduceMul, Nat.reduceSub, Int.reduceToNat, Int.reduceLE, Int.reduceLT, Int.reduceEq, Int.reduceAdd, ↓reduceIte, decide_true, decide_false, and_self]
                refine Go.Eng.run_freeze (l' := [(12, .addr 12 g12 0), (11, .bool m), (10, .addr 10 g10 0), (8, .sl (textsOf f).length (txCells (textsOf f))), (4, .bool false), (2, .addr 2 0 0), (1, .sl T.length (txCells T))]) (tl' := [(12, ⟨g12, 1, [.str f.tag, .sl f.text.length (u8s f.text), .int .u8 f.i0, .int .u8 f.i1, .sl f.subs.length (subCells (wsubs f.subs T f.subs.length))]⟩), (10, ⟨g10, 1, fCells X⟩), (2, ⟨0, 1, fCells f⟩)]) 100 ⟨gs, 2, subCells (wsubs f.subs T f.subs.length)⟩ rfl ⟨.keep _, .keep _, .keep _, .keep _, .keep _, .keep _, .keep _, trivial⟩ ⟨by decide, ⟨_, rfl, rfl, rfl, ⟨.keep _, .keep _, .keep _, .keep _, frz_all hzl, trivial⟩⟩, by decide, ⟨_, rfl, rfl, rfl, FrzL.refl _⟩, by decide, ⟨_, rfl, rfl, rfl, FrzL.refl _⟩, trivial⟩ ?_
                have hcw : closedL (subCells (wsubs f.subs T f.subs.length)) = true := subCells_closed _
                refine ex_run 50 ?_
                simp (maxSteps := 200000) only [fCells, hcl, hct, hcu, hcX, hcw, hlen', push_cast, List.getD_cons_zero, List.getD_cons_succ, List.take_succ_cons, List.take_zero, List.drop_succ_cons, Nat.reduceLT, Nat.reduceLeDiff, Nat.reduceEqDiff, Nat.reduceAdd, Nat.reduceMul, Nat.reduceSub, Int.reduceToNat, Int.reduceLE, Int.reduceLT, Int.reduceEq, Int.reduceAdd, ↓reduceIte, decide_true, decide_false, and_self]
                refine call_intro hG (fun h => by cases h) ?_
                cases m with
                | true =>
                  have hXe := hX1 rfl
                  subst hXe
                  simp (maxSteps := 200000) only [fCells, hcl, hct, hcu, hcX, hcw, hwl, push_cast, List.getD_cons_zero, List.getD_cons_succ, List.take_succ_cons, List.take_zero, List.drop_succ_cons, Nat.reduceLT, Nat.reduceLeDiff, Nat.reduceEqDiff, Nat.reduceAdd, Nat.reduceMul, Nat.reduceSub, Int.reduceToNat, Int.reduceLE, Int.reduceLT, Int.reduceEq, Int.reduceAdd, ↓reduceIte, decide_true, decide_false, and_self]
                  refine call_intro hS (fun h => by cases h) ?_
                  simp (maxSteps := 200000) only [fCells, hcl, hct, hcu, hcX, hcw, push_cast, List.getD_cons_zero, List.getD_cons_succ, List.take_succ_cons, List.take_zero, List.drop_succ_cons, Nat.reduceLT, Nat.reduceLeDiff, Nat.reduceEqDiff, Nat.reduceAdd, Nat.reduceMul, Nat.reduceSub, Int.reduceToNat, Int.reduceLE, Int.reduceLT, Int.reduceEq, Int.reduceAdd, ↓reduceIte, decide_true, decide_false, and_self]
                  exact ⟨_, _, rfl, rfl, .refl _, rfl⟩
                | false =>
                  have hXe := hX0 rfl
                  subst hXe
                  simp (maxSteps := 200000) only [fCells, zeroF, subCells_nil, u8s_nil, hcl, hct, hcu, hcw, push_cast, List.getD_cons_zero, List.getD_cons_succ, List.take_succ_cons, List.take_zero, List.drop_succ_cons, Nat.reduceLT, Nat.reduceLeDiff, Nat.reduceEqDiff, Nat.reduceAdd, Nat.reduceMul, Nat.reduceSub, Int.reduceToNat, Int.reduceLE, Int.reduceLT, Int.reduceEq, Int.reduceAdd, ↓reduceIte, decide_true, decide_false, and_self]
                  refine call_intro rsame_zero (fun h => by cases h) ?_
                  simp (maxSteps := 200000) only [push_cast, List.getD_cons_zero, List.getD_cons_succ, List.take_succ_cons, List.take_zero, List.drop_succ_cons, Nat.reduceLT, Nat.reduceLeDiff, Nat.reduceEqDiff, Nat.reduceAdd, Nat.reduceMul, Nat.reduceSub, Int.reduceToNat, Int.reduceLE, Int.reduceLT, Int.reduceEq, Int.reduceAdd, ↓reduceIte, decide_true, decide_false, and_self]
                  exact ⟨_, _, rfl, rfl, .refl _, rfl⟩
          · have hlen' : ¬ (T.length : Int) = ((textsOf f).length : Int) := by omega
            have hm : mayW f T = false := by unfold mayW; rw [decide_eq_false hlen]; rfl
            rw [hX0 hm, hm]
            simp (maxSteps := 200000) only [fCells, zeroF, subCells_nil, u8s_nil, hcl, hct, hcu, hlen', push_cast, List.getD_cons_zero, List.getD_cons_succ, List.take_succ_cons, List.take_zero, List.drop_succ_cons, Nat.reduceLT, Nat.reduceLeDiff, Nat.reduceEqDiff, Nat.reduceAdd, Nat.reduceMul, Nat.reduceSub, Int.reduceToNat, Int.reduceLE, Int.reduceLT, Int.reduceEq, Int.reduceAdd, ↓reduceIte, decide_true, decide_false, and_self]
            refine call_intro rsame_zero (fun h => by cases h) ?_
            simp (maxSteps := 200000) only [push_cast, List.getD_cons_zero, List.getD_cons_succ, List.take_succ_cons, List.take_zero, List.drop_succ_cons, Nat.reduceLT, Nat.reduceLeDiff, Nat.reduceEqDiff, Nat.reduceAdd, Nat.reduceMul, Nat.reduceSub, Int.reduceToNat, Int.reduceLE, Int.reduceLT, Int.reduceEq, Int.reduceAdd, ↓reduceIte, decide_true, decide_false, and_self]
            exact ⟨_, _, rfl, rfl, .refl _, rfl⟩
      · rw [decide_eq_false hsm]
        simp (maxSteps := 200000) only [hcl, hct, h20', push_cast, List.getD_cons_zero, List.getD_cons_succ, List.take_succ_cons, List.take_zero, List.drop_succ_cons, Nat.reduceLT, Nat.reduceLeDiff, Nat.reduceEqDiff, Nat.reduceAdd, Nat.reduceMul, Nat.reduceSub, Int.reduceToNat, Int.reduceLE, Int.reduceLT, Int.reduceEq, Int.reduceAdd, ↓reduceIte, decide_true, decide_false, and_self]
        refine call_intro answers21_c (fun h => by cases h) ?_
        simp (maxSteps := 200000) only [hcl, hct, h20', push_cast, List.getD_cons_zero, List.getD_cons_succ, List.take_succ_cons, List.take_zero, List.drop_succ_cons, Nat.reduceLT, Nat.reduceLeDiff, Nat.reduceEqDiff, Nat.reduceAdd, Nat.reduceMul, Nat.reduceSub, Int.reduceToNat, Int.reduceLE, Int.reduceLT, Int.reduceEq, Int.reduceAdd, ↓reduceIte, decide_true, decide_false, and_self]
        exact ⟨_, _, rfl, rfl, .refl _, rfl⟩
  · have h20' : ¬ (sumTo T i : Int) < 5000 := by omega
    have h20'' : (5000 : Int) ≤ (sumTo T i : Int) := by omega
    by_cases h : i < T.length
    · refine ex_run 30 ?_
      simp (maxSteps := 200000) only [fCells, hcl, hct, h, h20', h20'', push_cast, List.getD_cons_zero, List.getD_cons_succ, List.take_succ_cons, List.take_zero, List.drop_succ_cons, Nat.reduceLT, Nat.reduceLeDiff, Nat.reduceEqDiff, Nat.reduceAdd, Nat.reduceMul, Nat.reduceSub, Int.reduceToNat, Int.reduceLE, Int.reduceLT, Int.reduceEq, Int.reduceAdd, ↓reduceIte, decide_true, decide_false, and_self]
      refine call_intro (small_c f h1 h2 h3 h4) (fun h => by cases h) ?_
      by_cases hsm : tot f < 20000
      · rw [decide_eq_true hsm]
        simp (maxSteps := 200000) only [hcl, hct, h, h20', h20'', push_cast, List.getD_cons_zero, List.getD_cons_succ, List.take_succ_cons, List.take_zero, List.drop_succ_cons, Nat.reduceLT, Nat.reduceLeDiff, Nat.reduceEqDiff, Nat.reduceAdd, Nat.reduceMul, Nat.reduceSub, Int.reduceToNat, Int.reduceLE, Int.reduceLT, Int.reduceEq, Int.reduceAdd, ↓reduceIte, decide_true, decide_false, and_self]
        refine call_intro answers21_c (fun h => by cases h) ?_
        simp (maxSteps := 200000) only [hcl, hct, h, h20', h20'', push_cast, List.getD_cons_zero, List.getD_cons_succ, List.take_succ_cons, List.take_zero, List.drop_succ_cons, Nat.reduceLT, Nat.reduceLeDiff, Nat.reduceEqDiff, Nat.reduceAdd, Nat.reduceMul, Nat.reduceSub, Int.reduceToNat, Int.reduceLE, Int.reduceLT, Int.reduceEq, Int.reduceAdd, ↓reduceIte, decide_true, decide_false, and_self]
        exact ⟨_, _, rfl, rfl, .refl _, rfl⟩
      · rw [decide_eq_false hsm]
        simp (maxSteps := 200000) only [hcl, hct, h, h20', h20'', push_cast, List.getD_cons_zero, List.getD_cons_succ, List.take_succ_cons, List.take_zero, List.drop_succ_cons, Nat.reduceLT, Nat.reduceLeDiff, Nat.reduceEqDiff, Nat.reduceAdd, Nat.reduceMul, Nat.reduceSub, Int.reduceToNat, Int.reduceLE, Int.reduceLT, Int.reduceEq, Int.reduceAdd, ↓reduceIte, decide_true, decide_false, and_self]
        refine call_intro answers21_c (fun h => by cases h) ?_
        simp (maxSteps := 200000) only [hcl, hct, h, h20', h20'', push_cast, List.getD_cons_zero, List.getD_cons_succ, List.take_succ_cons, List.take_zero, List.drop_succ_cons, Nat.reduceLT, Nat.reduceLeDiff, Nat.reduceEqDiff, Nat.reduceAdd, Nat.reduceMul, Nat.reduceSub, Int.reduceToNat, Int.reduceLE, Int.reduceLT, Int.reduceEq, Int.reduceAdd, ↓reduceIte, decide_true, decide_false, and_self]
        exact ⟨_, _, rfl, rfl, .refl _, rfl⟩

    · refine ex_run 30 ?_
      simp (maxSteps := 200000) only [fCells, hcl, hct, h, h20', h20'', push_cast, List.getD_cons_zero, List.getD_cons_succ, List.take_succ_cons, List.take_zero, List.drop_succ_cons, Nat.reduceLT, Nat.reduceLeDiff, Nat.reduceEqDiff, Nat.reduceAdd, Nat.reduceMul, Nat.reduceSub, Int.reduceToNat, Int.reduceLE, Int.reduceLT, Int.reduceEq, Int.reduceAdd, ↓reduceIte, decide_true, decide_false, and_self]
      refine call_intro (small_c f h1 h2 h3 h4) (fun h => by cases h) ?_
      by_cases hsm : tot f < 20000
      · rw [decide_eq_true hsm]
        simp (maxSteps := 200000) only [hcl, hct, h, h20', h20'', push_cast, List.getD_cons_zero, List.getD_cons_succ, List.take_succ_cons, List.take_zero, List.drop_succ_cons, Nat.reduceLT, Nat.reduceLeDiff, Nat.reduceEqDiff, Nat.reduceAdd, Nat.reduceMul, Nat.reduceSub, Int.reduceToNat, Int.reduceLE, Int.reduceLT, Int.reduceEq, Int.reduceAdd, ↓reduceIte, decide_true, decide_false, and_self]
        refine call_intro answers21_c (fun h => by cases h) ?_
        simp (maxSteps := 200000) only [hcl, hct, h, h20', h20'', push_cast, List.getD_cons_zero, List.getD_cons_succ, List.take_succ_cons, List.take_zero, List.drop_succ_cons, Nat.reduceLT, Nat.reduceLeDiff, Nat.reduceEqDiff, Nat.reduceAdd, Nat.reduceMul, Nat.reduceSub, Int.reduceToNat, Int.reduceLE, Int.reduceLT, Int.reduceEq, Int.reduceAdd, ↓reduceIte, decide_true, decide_false, and_self]
        exact ⟨_, _, rfl, rfl, .refl _, rfl⟩
      · rw [decide_eq_false hsm]
        simp (maxSteps := 200000) only [hcl, hct, h, h20', h20'', push_cast, List.getD_cons_zero, List.getD_cons_succ, List.take_succ_cons, List.take_zero, List.drop_succ_cons, Nat.reduceLT, Nat.reduceLeDiff, Nat.reduceEqDiff, Nat.reduceAdd, Nat.reduceMul, Nat.reduceSub, Int.reduceToNat, Int.reduceLE, Int.reduceLT, Int.reduceEq, Int.reduceAdd, ↓reduceIte, decide_true, decide_false, and_self]
        refine call_intro answers21_c (fun h => by cases h) ?_
        simp (maxSteps := 200000) only [hcl, hct, h, h20', h20'', push_cast, List.getD_cons_zero, List.getD_cons_succ, List.take_succ_cons, List.take_zero, List.drop_succ_cons, Nat.reduceLT, Nat.reduceLeDiff, Nat.reduceEqDiff, Nat.reduceAdd, Nat.reduceMul, Nat.reduceSub, Int.reduceToNat, Int.reduceLE, Int.reduceLT, Int.reduceEq, Int.reduceAdd, ↓reduceIte, decide_true, decide_false, and_self]
        exact ⟨_, _, rfl, rfl, .refl _, rfl⟩

end Go.Proofs.Yteapibifebnboaa

/- FieldTexts: what is handed in. -/
set_option linter.unusedVariables false
namespace Go.Proofs.Yteapibifebnboaa
open Go Go.Eng
theorem txCells_flat (T : List (List Int)) : (T.map fun t => [tx1 t]).flatten = txCells T := by
  induction T with
  | nil => rfl
  | cons t T ih => show tx1 t :: (T.map fun t => [tx1 t]).flatten = tx1 t :: txCells T; rw [ih]
theorem opensTextsW {H : Type} : OpensW Try.prog H 52 fun xs => ∃ T : List (List Int), (∀ t ∈ T, inB t ∧ t.length ≤ 140737488351232) ∧ T.length ≤ 140737488351232 ∧ xs = [.sl T.length (txCells T)] := by
  refine (opens_sliceW (s := 1) Try.underlying52 (by kernel_rfl) (by omega) (of_decide_eq_true (by kernel_rfl)) opensTextW).imp ?_
  rintro xs ⟨els, h1, h2, rfl⟩
  obtain ⟨T, rfl⟩ := all_form (f := fun t => [tx1 t]) h1 fun c hc => let ⟨⟨l, _, _, h⟩, _⟩ := hc; ⟨l, h⟩
  refine ⟨T, fun t ht => ?_, by simpa using h2, by rw [List.length_map, txCells_flat]⟩
  obtain ⟨⟨l, l1, l2, h⟩, _⟩ := h1 [tx1 t] (List.mem_map.2 ⟨t, ht, rfl⟩)
  simp only [tx1, List.cons.injEq, AV.sl.injEq, and_true] at h
  rw [u8s_inj h.2]; exact ⟨l1, l2⟩
theorem FieldTexts_call {xs : List AV} {b : AV} (h : ∃ f : FV, f.tag.length ≤ 140737488351232 ∧ f.text.length ≤ 140737488351232 ∧ (∀ s ∈ f.subs, s.2.length ≤ 140737488351232) ∧ f.subs.length ≤ 140737488351232 ∧ FB f ∧ xs = fCells f)
    (k : ∃ T : List (List Int), (∀ t ∈ T, inB t ∧ t.length ≤ 140737488351232) ∧ T.length ≤ 140737488351232 ∧ [b] = [.sl T.length (txCells T)]) :
    ACall Try.prog 9 [.agg xs, b] (.bool true) none := by
  obtain ⟨f, h1, h2, h3, h4, h5, rfl⟩ := h
  obtain ⟨T, k1, k2, e⟩ := k
  cases e
  exact FieldTexts_c f T h1 h2 h3 h4 h5 k1 k2
end Go.Proofs.Yteapibifebnboaa
