/- slices.Clone of subfields, field.With -/
import Derived.Test.YtbkmbiccdhnibaaFldV
set_option linter.unusedVariables false
set_option linter.unusedSimpArgs false
namespace Go.Proofs.Ytbkmbiccdhnibaa
open Go Go.Eng
set_option maxRecDepth 100000 in
theorem SubsClone_nil : ACall Try.prog 53 [.sl 0 []] (.sl 0 []) none := by
  refine acall_intro none Try.func53 rfl (by kernel_rfl) (by simp [Try.f53]) ?_
  refine run_split 0 rfl ?_ ?_
  · refine ex_run 30 ?_
    simp (maxSteps := 200000) only [Try.f53, isNilS, eqOf, push_cast, List.getD_cons_zero, List.getD_cons_succ, List.take_succ_cons, List.take_zero, List.drop_succ_cons, Nat.reduceLT, Nat.reduceLeDiff, Nat.reduceEqDiff, Nat.reduceAdd, Nat.reduceMul, Nat.reduceSub, Int.reduceToNat, Int.reduceLE, Int.reduceLT, Int.reduceEq, Int.reduceAdd, ↓reduceIte, decide_true, decide_false, and_self]
    exact ⟨_, _, rfl, rfl, .nil, rfl⟩
  · refine ex_run 5 ?_
    simp (maxSteps := 200000) only [Try.f53, isNilS, eqOf, push_cast, List.getD_cons_zero, List.getD_cons_succ, List.take_succ_cons, List.take_zero, List.drop_succ_cons, Nat.reduceLT, Nat.reduceLeDiff, Nat.reduceEqDiff, Nat.reduceAdd, Nat.reduceMul, Nat.reduceSub, Int.reduceToNat, Int.reduceLE, Int.reduceLT, Int.reduceEq, Int.reduceAdd, ↓reduceIte, decide_true, decide_false, and_self]
    refine run_keep (l' := [(0, .sl 0 []), (4, .bool false), (2, .nilS)]) (t' := []) (nx' := _) ⟨.em _, .refl _, .refl _, trivial⟩ trivial (Nat.le_refl _) ?_
    refine ex_run 30 ?_
    simp (maxSteps := 200000) only [push_cast, List.getD_cons_zero, List.getD_cons_succ, List.take_succ_cons, List.take_zero, List.drop_succ_cons, Nat.reduceLT, Nat.reduceLeDiff, Nat.reduceEqDiff, Nat.reduceAdd, Nat.reduceMul, Nat.reduceSub, Int.reduceToNat, Int.reduceLE, Int.reduceLT, Int.reduceEq, Int.reduceAdd, ↓reduceIte, decide_true, decide_false, and_self]
    exact ⟨_, [.sl 0 []], rfl, by simp [outA, outV, outC, mkS_env, mkS_tk, lkF, lkG, closedL], .refl _, rfl⟩
set_option maxRecDepth 100000 in
theorem SubsClone_c (L : List SubV) (h0 : L ≠ []) (hl : L.length ≤ 1099511627776) : ACall Try.prog 53 [.sl L.length (subCells L)] (.own 0 0 0 L.length) (some ⟨0, 2, subCells L⟩) := by
  have hn : ¬ L.length = 0 := fun e => h0 (List.eq_nil_of_length_eq_zero e)
  have hsl := subCells_length L
  have hcl : closedL (subCells L) = true := subCells_closed _
  have htk : (subCells L).take (L.length * 2) = subCells L := List.take_of_length_le (by omega)
  refine acall_intro (some 5) Try.func53 rfl (by kernel_rfl) (by simp [Try.f53]) ?_
  refine ex_run 30 ?_
  simp (maxSteps := 200000) only [Try.f53, isNilS, eqOf, hn, htk, push_cast, List.getD_cons_zero, List.getD_cons_succ, List.take_succ_cons, List.take_zero, List.drop_succ_cons, Nat.reduceLT, Nat.reduceLeDiff, Nat.reduceEqDiff, Nat.reduceAdd, Nat.reduceMul, Nat.reduceSub, Int.reduceToNat, Int.reduceLE, Int.reduceLT, Int.reduceEq, Int.reduceAdd, ↓reduceIte, decide_true, decide_false, and_self]
  refine ⟨hsl, ⟨by omega, by omega⟩, ?_⟩
  exact ⟨_, [.own 0 0 0 L.length], rfl, by simp [outA, outV, outC, mkS_env, mkS_tk, lkF, lkG, AV.closed], .refl _, ⟨_, rfl, hcl, rfl⟩⟩
def wsubs (L : List SubV) (T : List (List Int)) (i : Nat) : List SubV := List.zipWith (fun s t => (s.1, t)) (L.take i) (T.take i) ++ L.drop i
def withF (f : FV) (T : List (List Int)) : FV := if ctl f.tag = true then ⟨f.tag, T.getD 0 [], f.i0, f.i1, f.subs⟩ else ⟨f.tag, f.text, f.i0, f.i1, wsubs f.subs T f.subs.length⟩
def mayW (f : FV) (T : List (List Int)) : Bool := decide (T.length = (textsOf f).length) && goodF (withF f T)
def withR (f : FV) (T : List (List Int)) : AV := if mayW f T = true then .tup [.agg (fCells (withF f T)), .bool true] else .tup [.agg (fCells zeroF), .bool false]
theorem wsubs_zero (L : List SubV) (T : List (List Int)) : wsubs L T 0 = L := by simp [wsubs]
theorem wsubs_length (L : List SubV) (T : List (List Int)) (h : T.length = L.length) (i : Nat) : (wsubs L T i).length = L.length := by
  simp [wsubs]; omega
theorem wsubs_succ (L : List SubV) (T : List (List Int)) (i : Nat) (hi : i < L.length) (ht : i < T.length) : wsubs L T (i + 1) = List.zipWith (fun s t => (s.1, t)) (L.take i) (T.take i) ++ (L[i].1, T[i]) :: L.drop (i + 1) := by
  unfold wsubs
  rw [List.take_add_one, List.take_add_one, List.getElem?_eq_getElem hi, List.getElem?_eq_getElem ht, List.zipWith_append (by simp; omega)]
  simp
theorem subCells_append (L M : List SubV) : subCells (L ++ M) = subCells L ++ subCells M := List.flatMap_append ..
theorem wsubs_set (L : List SubV) (T : List (List Int)) (i : Nat) (hi : i < L.length) (ht : i < T.length) : (subCells (wsubs L T i)).set (i * 2 + 1) (.sl T[i].length (u8s T[i])) = subCells (wsubs L T (i + 1)) := by
  have hz : (subCells (List.zipWith (fun s t => (s.1, t)) (L.take i) (T.take i))).length = i * 2 := by rw [subCells_length]; simp; omega
  rw [wsubs_succ L T i hi ht]
  unfold wsubs
  rw [subCells_append, subCells_append, List.drop_eq_getElem_cons hi, List.set_append_right _ _ (by omega), hz, show i * 2 + 1 - i * 2 = 1 by omega]
  rfl
theorem frz_all {t g n : Nat} {L : List AV} (h : L.length = n * 2) : Frz t ⟨g, 2, L⟩ (.own t g 0 n) (.sl n L) := by
  have := Frz.own (t := t) (T := ⟨g, 2, L⟩) 0 n (by show 0 + n * 2 ≤ L.length; omega)
  have e : (L.drop 0).take (n * 2) = L := List.take_of_length_le (by rw [List.drop_zero]; omega)
  rw [show ((⟨g, 2, L⟩ : Tok).cs.drop 0).take (n * (⟨g, 2, L⟩ : Tok).sz) = L from e] at this
  exact this
theorem wsubs_mem {L : List SubV} {T : List (List Int)} {s : SubV} (h : s ∈ wsubs L T L.length) : ∃ a ∈ L, ∃ t ∈ T, s = (a.1, t) := by
  unfold wsubs at h
  rw [List.take_length, List.drop_length, List.append_nil] at h
  obtain ⟨i, hi, rfl⟩ := List.mem_iff_getElem.1 h
  rw [List.getElem_zipWith]
  simp only [List.length_zipWith, List.length_take] at hi
  exact ⟨_, List.getElem_mem (by omega), _, List.mem_of_mem_take (List.getElem_mem (by rw [List.length_take]; omega)), rfl⟩
set_option maxRecDepth 100000 in
set_option maxHeartbeats 8000000 in
theorem With_c (f : FV) (T : List (List Int)) (hF : FB f) (hT : ∀ t ∈ T, inB t ∧ t.length ≤ 1099511627776) (hTn : T.length ≤ 1099511627776) (ht : f.tag.length ≤ 9223372036854775807) (hx : f.text.length ≤ 140737488355328) (hs : ∀ s ∈ f.subs, s.2.length ≤ 140737488355328) (hn : f.subs.length ≤ 1099511627776)
    (hb : T.length = (textsOf f).length → (fbytes (withF f T)).length ≤ 1099511627776) :
    ACall Try.prog 33 [.agg (fCells f), .sl T.length (txCells T)] (withR f T) none := by
  have hcf : closedL (subCells f.subs) = true := subCells_closed _
  have hct : closedL (txCells T) = true := txCells_closed _
  have hcu : closedL (txCells (textsOf f)) = true := txCells_closed _
  refine acall_intro none Try.func33 rfl (by kernel_rfl) (by simp [Try.f33]) ?_
  refine ex_run 30 ?_
  simp (maxSteps := 200000) only [Try.f33, fCells, hcf, hct, push_cast, List.getD_cons_zero, List.getD_cons_succ, List.take_succ_cons, List.take_zero, List.drop_succ_cons, Nat.reduceLT, Nat.reduceLeDiff, Nat.reduceEqDiff, Nat.reduceAdd, Nat.reduceMul, Nat.reduceSub, Int.reduceToNat, Int.reduceLE, Int.reduceLT, Int.reduceEq, Int.reduceAdd, ↓reduceIte, decide_true, decide_false, and_self]
  refine call_intro (Texts_c f ht hx hs hn) (fun h => by cases h) ?_
  by_cases hlen : T.length = (textsOf f).length
  · have hlen' : (T.length : Int) = ((textsOf f).length : Int) := by omega
    simp (maxSteps := 200000) only [hcf, hcu, hlen', push_cast, List.getD_cons_zero, List.getD_cons_succ, List.take_succ_cons, List.take_zero, List.drop_succ_cons, Nat.reduceLT, Nat.reduceLeDiff, Nat.reduceEqDiff, Nat.reduceAdd, Nat.reduceMul, Nat.reduceSub, Int.reduceToNat, Int.reduceLE, Int.reduceLT, Int.reduceEq, Int.reduceAdd, ↓reduceIte, decide_true, decide_false, and_self]
    refine call_intro (Control_c f.tag ht) (fun h => by cases h) ?_
    cases hc : List.isPrefixOf [48, 48] f.tag with
    | true =>
      have hTe : textsOf f = [f.text] := by unfold textsOf; rw [if_pos (show ctl f.tag = true from hc)]
      rw [hTe] at hlen
      obtain ⟨t, rfl⟩ : ∃ t, T = [t] := by
        cases T with
        | nil => simp at hlen
        | cons t T => cases T with
          | nil => exact ⟨t, rfl⟩
          | cons u T => simp at hlen
      obtain ⟨ht1, ht2⟩ := hT t (List.mem_cons_self ..)
      have hwf : withF f [t] = ⟨f.tag, t, f.i0, f.i1, f.subs⟩ := by unfold withF; rw [if_pos (show ctl f.tag = true from hc)]; rfl
      have hlen : [t].length = (textsOf f).length := by rw [hTe]; rfl
      have hG : FB (withF f [t]) := by rw [hwf]; exact ⟨ht1, hF.subs⟩
      have hPr := Print_c (withF f [t]) hG (by rw [hwf]; exact ht) (by rw [hwf]; show t.length ≤ _; omega) (hb hlen) (by rw [hwf]; exact hn)
      have hgc : fCells (withF f [t]) = [.str f.tag, .sl t.length (u8s t), .int .u8 f.i0, .int .u8 f.i1, .sl f.subs.length (subCells f.subs)] := by rw [hwf]; rfl
      rw [hgc] at hPr
      simp (maxSteps := 200000) only [hcf, txCells, tx1, List.map_cons, List.map_nil, List.length_cons, List.length_nil, push_cast, List.getD_cons_zero, List.getD_cons_succ, List.take_succ_cons, List.take_zero, List.drop_succ_cons, Nat.reduceLT, Nat.reduceLeDiff, Nat.reduceEqDiff, Nat.reduceAdd, Nat.reduceMul, Nat.reduceSub, Int.reduceToNat, Int.reduceLE, Int.reduceLT, Int.reduceEq, Int.reduceAdd, ↓reduceIte, decide_true, decide_false, and_self]
      refine call_intro (Clone_c t (by omega)) (fun h => by cases h) ?_
      simp (maxSteps := 200000) only [hcf, push_cast, List.getD_cons_zero, List.getD_cons_succ, List.take_succ_cons, List.take_zero, List.drop_succ_cons, Nat.reduceLT, Nat.reduceLeDiff, Nat.reduceEqDiff, Nat.reduceAdd, Nat.reduceMul, Nat.reduceSub, Int.reduceToNat, Int.reduceLE, Int.reduceLT, Int.reduceEq, Int.reduceAdd, ↓reduceIte, decide_true, decide_false, and_self]
      refine call_intro hPr (fun h => by cases h) ?_
      unfold prR
      cases hgd : goodF (withF f [t]) with
      | false =>
        rw [if_neg (by simp)]
        simp (maxSteps := 200000) only [push_cast, List.getD_cons_zero, List.getD_cons_succ, List.take_succ_cons, List.take_zero, List.drop_succ_cons, Nat.reduceLT, Nat.reduceLeDiff, Nat.reduceEqDiff, Nat.reduceAdd, Nat.reduceMul, Nat.reduceSub, Int.reduceToNat, Int.reduceLE, Int.reduceLT, Int.reduceEq, Int.reduceAdd, ↓reduceIte, decide_true, decide_false, and_self]
        unfold withR mayW
        rw [hgd, Bool.and_false, if_neg (by simp)]
        exact ⟨[.agg [.str [], .nilS, .int .u8 0, .int .u8 0, .nilS], .bool false], [.agg [.str [], .nilS, .int .u8 0, .int .u8 0, .nilS], .bool false], by kernel_rfl, by simp [outA, outV, outL, outC, AV.closed], sub_tup (ds := [.agg (fCells zeroF), .bool false]) ⟨sub_agg ⟨.refl _, .nil, .refl _, .refl _, .nil, trivial⟩, .refl _, trivial⟩, rfl⟩
      | true =>
        rw [if_pos rfl]
        simp (maxSteps := 200000) only [push_cast, List.getD_cons_zero, List.getD_cons_succ, List.take_succ_cons, List.take_zero, List.drop_succ_cons, Nat.reduceLT, Nat.reduceLeDiff, Nat.reduceEqDiff, Nat.reduceAdd, Nat.reduceMul, Nat.reduceSub, Int.reduceToNat, Int.reduceLE, Int.reduceLT, Int.reduceEq, Int.reduceAdd, ↓reduceIte, decide_true, decide_false, and_self]
        unfold withR mayW
        rw [hgd, decide_eq_true hlen, if_pos (by rfl), hgc]
        exact ⟨[.agg [.str f.tag, .sl t.length (u8s t), .int .u8 f.i0, .int .u8 f.i1, .sl f.subs.length (subCells f.subs)], .bool true], [.agg [.str f.tag, .sl t.length (u8s t), .int .u8 f.i0, .int .u8 f.i1, .sl f.subs.length (subCells f.subs)], .bool true], by kernel_rfl, by simp [outA, outV, outL, outC, AV.closed, u8s_closed, hcf], .refl _, rfl⟩
    | false =>
      have hTe : (textsOf f).length = f.subs.length := by unfold textsOf; rw [if_neg (by show ¬ ctl f.tag = true; unfold ctl; rw [hc]; simp), List.length_map]
      have hTl : T.length = f.subs.length := by omega
      have hwf : withF f T = ⟨f.tag, f.text, f.i0, f.i1, wsubs f.subs T f.subs.length⟩ := by unfold withF; rw [if_neg (by show ¬ ctl f.tag = true; unfold ctl; rw [hc]; simp)]
      have hwl := wsubs_length f.subs T hTl f.subs.length
      have hG : FB (withF f T) := by
        rw [hwf]
        refine ⟨hF.text, fun s hs => ?_⟩
        obtain ⟨a, ha, t, htm, rfl⟩ := wsubs_mem hs
        exact ⟨(hF.subs a ha).1, (hT t htm).1⟩
      have hPr := Print_c (withF f T) hG (by rw [hwf]; exact ht) (by rw [hwf]; exact hx) (hb hlen) (by rw [hwf]; show (wsubs f.subs T f.subs.length).length ≤ _; omega)
      have hgc : fCells (withF f T) = [.str f.tag, .sl f.text.length (u8s f.text), .int .u8 f.i0, .int .u8 f.i1, .sl f.subs.length (subCells (wsubs f.subs T f.subs.length))] := by rw [hwf]; show [_, _, _, _, AV.sl (wsubs f.subs T f.subs.length).length _] = _; rw [hwl]
      rw [hgc] at hPr
      by_cases h0 : f.subs = []
      · have hn0 : f.subs.length = 0 := by rw [h0]; rfl
        have hT0 : T = [] := List.eq_nil_of_length_eq_zero (by omega)
        have hw0 : wsubs f.subs T f.subs.length = [] := by rw [h0, hT0]; rfl
        rw [hw0, hn0] at hPr hgc
        have hfz : f.subs.length = 0 := hn0
        simp (maxSteps := 200000) only [hcf, hfz, h0, subCells_nil, push_cast, List.getD_cons_zero, List.getD_cons_succ, List.take_succ_cons, List.take_zero, List.drop_succ_cons, Nat.reduceLT, Nat.reduceLeDiff, Nat.reduceEqDiff, Nat.reduceAdd, Nat.reduceMul, Nat.reduceSub, Int.reduceToNat, Int.reduceLE, Int.reduceLT, Int.reduceEq, Int.reduceAdd, ↓reduceIte, decide_true, decide_false, and_self]
        refine call_intro SubsClone_nil (fun h => by cases h) ?_
        simp (maxSteps := 200000) only [push_cast, List.getD_cons_zero, List.getD_cons_succ, List.take_succ_cons, List.take_zero, List.drop_succ_cons, Nat.reduceLT, Nat.reduceLeDiff, Nat.reduceEqDiff, Nat.reduceAdd, Nat.reduceMul, Nat.reduceSub, Int.reduceToNat, Int.reduceLE, Int.reduceLT, Int.reduceEq, Int.reduceAdd, ↓reduceIte, decide_true, decide_false, and_self]
        refine run_keep (l' := [(31, .int .i64 0), (30, .int .i64 0), (5, .bool false), (4, .addr 4 1 0), (2, .addr 2 0 0)]) (t' := [(2, ⟨0, 1, [.str f.tag, .sl f.text.length (u8s f.text), .int .u8 f.i0, .int .u8 f.i1, .sl 0 []]⟩), (4, ⟨1, 1, [.str [], .nilS, .int .u8 0, .int .u8 0, .nilS]⟩)]) (nx' := _) ⟨.refl _, .refl _, .refl _, .refl _, .refl _, trivial⟩ ⟨⟨_, rfl, rfl, rfl, SubL.refl _⟩, ⟨_, rfl, rfl, rfl, SubL.refl _⟩, trivial⟩ (Nat.le_refl _) ?_
        refine run_loop (fun n s => ∃ nx : Nat, n = 0 ∧ s = mkS [(31, .int .i64 0), (30, .int .i64 0), (5, .bool false), (4, .addr 4 1 0), (2, .addr 2 0 0)] [(2, ⟨0, 1, [.str f.tag, .sl f.text.length (u8s f.text), .int .u8 f.i0, .int .u8 f.i1, .sl 0 []]⟩), (4, ⟨1, 1, [.str [], .nilS, .int .u8 0, .int .u8 0, .nilS]⟩)] nx) _ ⟨_, rfl, rfl⟩ ?_
        rintro n s ⟨nx, rfl, rfl⟩
        refine ex_run 40 ?_
        simp (maxSteps := 200000) only [push_cast, List.getD_cons_zero, List.getD_cons_succ, List.take_succ_cons, List.take_zero, List.drop_succ_cons, Nat.reduceLT, Nat.reduceLeDiff, Nat.reduceEqDiff, Nat.reduceAdd, Nat.reduceMul, Nat.reduceSub, Int.reduceToNat, Int.reduceLE, Int.reduceLT, Int.reduceEq, Int.reduceAdd, ↓reduceIte, decide_true, decide_false, and_self]
        refine call_intro hPr (fun h => by cases h) ?_
        unfold prR
        cases hgd : goodF (withF f T) with
        | false =>
          rw [if_neg (by simp)]
          simp (maxSteps := 200000) only [push_cast, List.getD_cons_zero, List.getD_cons_succ, List.take_succ_cons, List.take_zero, List.drop_succ_cons, Nat.reduceLT, Nat.reduceLeDiff, Nat.reduceEqDiff, Nat.reduceAdd, Nat.reduceMul, Nat.reduceSub, Int.reduceToNat, Int.reduceLE, Int.reduceLT, Int.reduceEq, Int.reduceAdd, ↓reduceIte, decide_true, decide_false, and_self]
          unfold withR mayW
          rw [hgd, Bool.and_false, if_neg (by simp)]
          exact ⟨[.agg [.str [], .nilS, .int .u8 0, .int .u8 0, .nilS], .bool false], [.agg [.str [], .nilS, .int .u8 0, .int .u8 0, .nilS], .bool false], by kernel_rfl, by simp [outA, outV, outL, outC, AV.closed], sub_tup (ds := [.agg (fCells zeroF), .bool false]) ⟨sub_agg ⟨.refl _, .nil, .refl _, .refl _, .nil, trivial⟩, .refl _, trivial⟩, rfl⟩
        | true =>
          rw [if_pos rfl]
          simp (maxSteps := 200000) only [push_cast, List.getD_cons_zero, List.getD_cons_succ, List.take_succ_cons, List.take_zero, List.drop_succ_cons, Nat.reduceLT, Nat.reduceLeDiff, Nat.reduceEqDiff, Nat.reduceAdd, Nat.reduceMul, Nat.reduceSub, Int.reduceToNat, Int.reduceLE, Int.reduceLT, Int.reduceEq, Int.reduceAdd, ↓reduceIte, decide_true, decide_false, and_self]
          unfold withR mayW
          rw [hgd, decide_eq_true hlen, if_pos (by rfl), hgc]
          exact ⟨[.agg [.str f.tag, .sl f.text.length (u8s f.text), .int .u8 f.i0, .int .u8 f.i1, .sl 0 []], .bool true], [.agg [.str f.tag, .sl f.text.length (u8s f.text), .int .u8 f.i0, .int .u8 f.i1, .sl 0 []], .bool true], by kernel_rfl, by simp [outA, outV, outL, outC, AV.closed, u8s_closed, closedL], .refl _, rfl⟩
      · simp (maxSteps := 200000) only [hcf, push_cast, List.getD_cons_zero, List.getD_cons_succ, List.take_succ_cons, List.take_zero, List.drop_succ_cons, Nat.reduceLT, Nat.reduceLeDiff, Nat.reduceEqDiff, Nat.reduceAdd, Nat.reduceMul, Nat.reduceSub, Int.reduceToNat, Int.reduceLE, Int.reduceLT, Int.reduceEq, Int.reduceAdd, ↓reduceIte, decide_true, decide_false, and_self]
        refine call_intro (SubsClone_c f.subs h0 hn) (fun h => by cases h) ?_
        simp (maxSteps := 200000) only [hcf, push_cast, List.getD_cons_zero, List.getD_cons_succ, List.take_succ_cons, List.take_zero, List.drop_succ_cons, Nat.reduceLT, Nat.reduceLeDiff, Nat.reduceEqDiff, Nat.reduceAdd, Nat.reduceMul, Nat.reduceSub, Int.reduceToNat, Int.reduceLE, Int.reduceLT, Int.reduceEq, Int.reduceAdd, ↓reduceIte, decide_true, decide_false, and_self]
        refine run_keep (l' := [(31, .int .i64 0), (30, .int .i64 f.subs.length), (5, .bool false), (4, .addr 4 1 0), (2, .addr 2 0 0), (1, .sl T.length (txCells T))]) (t' := [(2, ⟨0, 1, [.str f.tag, .sl f.text.length (u8s f.text), .int .u8 f.i0, .int .u8 f.i1, .own 26 14 0 f.subs.length]⟩), (26, ⟨14, 2, subCells (wsubs f.subs T 0)⟩), (4, ⟨1, 1, [.str [], .nilS, .int .u8 0, .int .u8 0, .nilS]⟩)]) (nx' := _) ⟨.refl _, .refl _, .refl _, .refl _, .refl _, .refl _, trivial⟩ ⟨⟨_, rfl, rfl, rfl, SubL.refl _⟩, ⟨_, rfl, rfl, rfl, by rw [wsubs_zero]; exact SubL.refl _⟩, ⟨_, rfl, rfl, rfl, SubL.refl _⟩, trivial⟩ (Nat.le_refl _) ?_
        refine run_loop (fun n s => ∃ (i nx : Nat), i ≤ f.subs.length ∧ n = f.subs.length - i ∧ s = mkS [(31, .int .i64 i), (30, .int .i64 f.subs.length), (5, .bool false), (4, .addr 4 1 0), (2, .addr 2 0 0), (1, .sl T.length (txCells T))] [(2, ⟨0, 1, [.str f.tag, .sl f.text.length (u8s f.text), .int .u8 f.i0, .int .u8 f.i1, .own 26 14 0 f.subs.length]⟩), (26, ⟨14, 2, subCells (wsubs f.subs T i)⟩), (4, ⟨1, 1, [.str [], .nilS, .int .u8 0, .int .u8 0, .nilS]⟩)] nx) _ ⟨0, _, Nat.zero_le _, rfl, rfl⟩ ?_
        rintro n s ⟨i, nx, hi, rfl, rfl⟩
        have hsl : (subCells (wsubs f.subs T i)).length = f.subs.length * 2 := by rw [subCells_length, wsubs_length f.subs T hTl]
        have htl := txCells_length T
        by_cases h : i < f.subs.length
        · have hiT : i < T.length := by omega
          have hset := wsubs_set f.subs T i h hiT
          have gt := txCells_get T i hiT
          have hpos : 0 < f.subs.length * 2 := by omega
          have hposT : 0 < T.length := by omega
          have l1 : i * 2 + 1 < f.subs.length * 2 := by omega
          have hw : IntKind.i64.wrap ((i : Int) + 1) = ((i + 1 : Nat) : Int) := by rw [wrap_i64 (by omega)]; omega
          have htt := (hT _ (List.getElem_mem hiT)).2
          generalize T[i] = t at *
          have hct' : closedL (u8s t) = true := u8s_closed t
          refine ex_run 40 ?_
          simp (maxSteps := 200000) only [h, hiT, gt, hsl, htl, hpos, hposT, l1, hct', push_cast, List.getD_cons_zero, List.getD_cons_succ, List.take_succ_cons, List.take_zero, List.drop_succ_cons, Nat.reduceLT, Nat.reduceLeDiff, Nat.reduceEqDiff, Nat.reduceAdd, Nat.reduceMul, Nat.reduceSub, Int.reduceToNat, Int.reduceLE, Int.reduceLT, Int.reduceEq, Int.reduceAdd, ↓reduceIte, decide_true, decide_false, and_self]
          refine ⟨by kernel_rfl, ?_⟩
          refine call_introF (Clone_c t (by omega)) (fun h => by cases h) ?_
          simp (maxSteps := 200000) only [hw, h, hsl, hpos, l1, hset, push_cast, List.getD_cons_zero, List.getD_cons_succ, List.take_succ_cons, List.take_zero, List.drop_succ_cons, Nat.reduceLT, Nat.reduceLeDiff, Nat.reduceEqDiff, Nat.reduceAdd, Nat.reduceMul, Nat.reduceSub, Int.reduceToNat, Int.reduceLE, Int.reduceLT, Int.reduceEq, Int.reduceAdd, ↓reduceIte, decide_true, decide_false, and_self]
          refine ⟨by omega, okTr_of (by kernel_rfl), ?_⟩
          refine run_back_le (le_mk (l' := [(31, .int .i64 ((i + 1 : Nat) : Int)), (30, .int .i64 f.subs.length), (5, .bool false), (4, .addr 4 1 0), (2, .addr 2 0 0), (1, .sl T.length (txCells T))]) (t' := [(2, ⟨0, 1, [.str f.tag, .sl f.text.length (u8s f.text), .int .u8 f.i0, .int .u8 f.i1, .own 26 14 0 f.subs.length]⟩), (26, ⟨14, 2, subCells (wsubs f.subs T (i + 1))⟩), (4, ⟨1, 1, [.str [], .nilS, .int .u8 0, .int .u8 0, .nilS]⟩)]) (nx' := _)
            ⟨.of_eq (congrArg (AV.int .i64) (by omega)), .refl _, .refl _, .refl _, .refl _, .refl _, trivial⟩ ⟨⟨_, rfl, rfl, rfl, SubL.refl _⟩, ⟨_, rfl, rfl, rfl, SubL.refl _⟩, ⟨_, rfl, rfl, rfl, SubL.refl _⟩, trivial⟩ (Nat.le_refl _)) ?_
          exact ⟨f.subs.length - (i + 1), by omega, i + 1, _, by omega, rfl, rfl⟩
        · have hie : i = f.subs.length := by omega
          subst hie
          refine ex_run 4 ?_
          simp (maxSteps := 200000) only [h, push_cast, List.getD_cons_zero, List.getD_cons_succ, List.take_succ_cons, List.take_zero, List.drop_succ_cons, Nat.reduceLT, Nat.reduceLeDiff, Nat.reduceEqDiff, Nat.reduceAdd, Nat.reduceMul, Nat.reduceSub, Int.reduceToNat, Int.reduceLE, Int.reduceLT, Int.reduceEq, Int.reduceAdd, ↓reduceIte, decide_true, decide_false, and_self]
          refine Go.Eng.run_freeze (l' := [(5, .bool false), (4, .addr 4 1 0), (2, .addr 2 0 0)]) (tl' := [(2, ⟨0, 1, [.str f.tag, .sl f.text.length (u8s f.text), .int .u8 f.i0, .int .u8 f.i1, .sl f.subs.length (subCells (wsubs f.subs T f.subs.length))]⟩), (4, ⟨1, 1, [.str [], .nilS, .int .u8 0, .int .u8 0, .nilS]⟩)]) 26 ⟨14, 2, subCells (wsubs f.subs T f.subs.length)⟩ rfl ⟨.keep _, .keep _, .keep _, trivial⟩ ⟨by decide, ⟨_, rfl, rfl, rfl, ⟨.keep _, .keep _, .keep _, .keep _, frz_all hsl, trivial⟩⟩, by decide, ⟨_, rfl, rfl, rfl, FrzL.refl _⟩, trivial⟩ ?_
          have hcw : closedL (subCells (wsubs f.subs T f.subs.length)) = true := subCells_closed _
          refine ex_run 40 ?_
          simp (maxSteps := 200000) only [hcw, push_cast, List.getD_cons_zero, List.getD_cons_succ, List.take_succ_cons, List.take_zero, List.drop_succ_cons, Nat.reduceLT, Nat.reduceLeDiff, Nat.reduceEqDiff, Nat.reduceAdd, Nat.reduceMul, Nat.reduceSub, Int.reduceToNat, Int.reduceLE, Int.reduceLT, Int.reduceEq, Int.reduceAdd, ↓reduceIte, decide_true, decide_false, and_self]
          refine call_intro hPr (fun h => by cases h) ?_
          unfold prR
          cases hgd : goodF (withF f T) with
          | false =>
            rw [if_neg (by simp)]
            simp (maxSteps := 200000) only [push_cast, List.getD_cons_zero, List.getD_cons_succ, List.take_succ_cons, List.take_zero, List.drop_succ_cons, Nat.reduceLT, Nat.reduceLeDiff, Nat.reduceEqDiff, Nat.reduceAdd, Nat.reduceMul, Nat.reduceSub, Int.reduceToNat, Int.reduceLE, Int.reduceLT, Int.reduceEq, Int.reduceAdd, ↓reduceIte, decide_true, decide_false, and_self]
            unfold withR mayW
            rw [hgd, Bool.and_false, if_neg (by simp)]
            exact ⟨[.agg [.str [], .nilS, .int .u8 0, .int .u8 0, .nilS], .bool false], [.agg [.str [], .nilS, .int .u8 0, .int .u8 0, .nilS], .bool false], by kernel_rfl, by simp [outA, outV, outL, outC, AV.closed], sub_tup (ds := [.agg (fCells zeroF), .bool false]) ⟨sub_agg ⟨.refl _, .nil, .refl _, .refl _, .nil, trivial⟩, .refl _, trivial⟩, rfl⟩
          | true =>
            rw [if_pos rfl]
            simp (maxSteps := 200000) only [push_cast, List.getD_cons_zero, List.getD_cons_succ, List.take_succ_cons, List.take_zero, List.drop_succ_cons, Nat.reduceLT, Nat.reduceLeDiff, Nat.reduceEqDiff, Nat.reduceAdd, Nat.reduceMul, Nat.reduceSub, Int.reduceToNat, Int.reduceLE, Int.reduceLT, Int.reduceEq, Int.reduceAdd, ↓reduceIte, decide_true, decide_false, and_self]
            unfold withR mayW
            rw [hgd, decide_eq_true hlen, if_pos (by rfl), hgc]
            exact ⟨[.agg [.str f.tag, .sl f.text.length (u8s f.text), .int .u8 f.i0, .int .u8 f.i1, .sl f.subs.length (subCells (wsubs f.subs T f.subs.length))], .bool true], [.agg [.str f.tag, .sl f.text.length (u8s f.text), .int .u8 f.i0, .int .u8 f.i1, .sl f.subs.length (subCells (wsubs f.subs T f.subs.length))], .bool true], by kernel_rfl, by simp [outA, outV, outL, outC, AV.closed, u8s_closed, hcw], .refl _, rfl⟩
  · have hlen' : ¬ (T.length : Int) = ((textsOf f).length : Int) := by omega
    simp (maxSteps := 200000) only [hcf, hcu, hlen', push_cast, List.getD_cons_zero, List.getD_cons_succ, List.take_succ_cons, List.take_zero, List.drop_succ_cons, Nat.reduceLT, Nat.reduceLeDiff, Nat.reduceEqDiff, Nat.reduceAdd, Nat.reduceMul, Nat.reduceSub, Int.reduceToNat, Int.reduceLE, Int.reduceLT, Int.reduceEq, Int.reduceAdd, ↓reduceIte, decide_true, decide_false, and_self]
    unfold withR mayW
    rw [decide_eq_false hlen, Bool.false_and, if_neg (by simp)]
    exact ⟨[.agg [.str [], .nilS, .int .u8 0, .int .u8 0, .nilS], .bool false], [.agg [.str [], .nilS, .int .u8 0, .int .u8 0, .nilS], .bool false], by kernel_rfl, by simp [outA, outV, outL, outC, AV.closed], sub_tup (ds := [.agg (fCells zeroF), .bool false]) ⟨sub_agg ⟨.refl _, .nil, .refl _, .refl _, .nil, trivial⟩, .refl _, trivial⟩, rfl⟩
end Go.Proofs.Ytbkmbiccdhnibaa
