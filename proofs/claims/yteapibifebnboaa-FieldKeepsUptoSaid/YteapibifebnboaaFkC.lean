/- field.With where it succeeds on a field with subfields: the subfields' row comes along. -/
import Derived.Test.YteapibifebnboaaFkB
set_option linter.unusedVariables false
set_option linter.unusedSimpArgs false
namespace Go.Proofs.Yteapibifebnboaa
open Go Go.Eng
theorem acall_sub {P : Program} {f : FuncId} {args : List AV} {r r' : AV} {T : Option Tok} (h : ACall P f args r T) (hs : Sub r r') : ACall P f args r' T :=
  ⟨h.1, fun w vargs Z0 hZ0 hargs => (h.2 w vargs Z0 hZ0 hargs).mono fun e w' ⟨v, cx, he, hret, hrep⟩ => ⟨v, cx, he, hret, hrep.sub hs⟩⟩
set_option maxRecDepth 100000 in
set_option maxHeartbeats 8000000 in
theorem With_k (f : FV) (T : List (List Int)) (hF : FB f) (hT : ∀ t ∈ T, inB t ∧ t.length ≤ 1099511627776) (hTn : T.length ≤ 1099511627776) (ht : f.tag.length ≤ 9223372036854775807) (hx : f.text.length ≤ 140737488355328) (hs : ∀ s ∈ f.subs, s.2.length ≤ 140737488355328) (hn : f.subs.length ≤ 1099511627776)
    (hb : (fbytes (withF f T)).length ≤ 1099511627776) (hlen : T.length = (textsOf f).length) (hc : List.isPrefixOf [48, 48] f.tag = false) (h0 : f.subs ≠ []) (hgd : goodF (withF f T) = true) :
    ACall Try.prog 33 [.agg (fCells f), .sl T.length (txCells T)] (.tup [.agg [.str f.tag, .sl f.text.length (u8s f.text), .int .u8 f.i0, .int .u8 f.i1, .own 0 0 0 f.subs.length], .bool true]) (some ⟨0, 2, subCells (wsubs f.subs T f.subs.length)⟩) := by
  have hcf : closedL (subCells f.subs) = true := subCells_closed _
  have hct : closedL (txCells T) = true := txCells_closed _
  have hcu : closedL (txCells (textsOf f)) = true := txCells_closed _
  refine acall_intro (some 26) Try.func33 rfl (by kernel_rfl) (by simp [Try.f33]) ?_
  refine ex_run 30 ?_
  simp (maxSteps := 200000) only [Try.f33, fCells, hcf, hct, push_cast, List.getD_cons_zero, List.getD_cons_succ, List.take_succ_cons, List.take_zero, List.drop_succ_cons, Nat.reduceLT, Nat.reduceLeDiff, Nat.reduceEqDiff, Nat.reduceAdd, Nat.reduceMul, Nat.reduceSub, Int.reduceToNat, Int.reduceLE, Int.reduceLT, Int.reduceEq, Int.reduceAdd, ↓reduceIte, decide_true, decide_false, and_self]
  refine call_intro (Texts_c f ht hx hs hn) (fun h => by cases h) ?_
  have hlen' : (T.length : Int) = ((textsOf f).length : Int) := by omega
  simp (maxSteps := 200000) only [hcf, hcu, hlen', push_cast, List.getD_cons_zero, List.getD_cons_succ, List.take_succ_cons, List.take_zero, List.drop_succ_cons, Nat.reduceLT, Nat.reduceLeDiff, Nat.reduceEqDiff, Nat.reduceAdd, Nat.reduceMul, Nat.reduceSub, Int.reduceToNat, Int.reduceLE, Int.reduceLT, Int.reduceEq, Int.reduceAdd, ↓reduceIte, decide_true, decide_false, and_self]
  refine call_intro (Control_c f.tag ht) (fun h => by cases h) ?_
  rw [hc]
  have hTe : (textsOf f).length = f.subs.length := by unfold textsOf; rw [if_neg (by show ¬ ctl f.tag = true; unfold ctl; rw [hc]; simp), List.length_map]
  have hTl : T.length = f.subs.length := by omega
  have hwf : withF f T = ⟨f.tag, f.text, f.i0, f.i1, wsubs f.subs T f.subs.length⟩ := by unfold withF; rw [if_neg (by show ¬ ctl f.tag = true; unfold ctl; rw [hc]; simp)]
  have hwl := wsubs_length f.subs T hTl f.subs.length
  have hG : FB (withF f T) := by
    rw [hwf]
    refine ⟨hF.text, fun s hs => ?_⟩
    obtain ⟨a, ha, t, htm, rfl⟩ := wsubs_mem hs
    exact ⟨(hF.subs a ha).1, (hT t htm).1⟩
  have hPr := Print_c (withF f T) hG (by rw [hwf]; exact ht) (by rw [hwf]; exact hx) hb (by rw [hwf]; show (wsubs f.subs T f.subs.length).length ≤ _; omega)
  have hgc : fCells (withF f T) = [.str f.tag, .sl f.text.length (u8s f.text), .int .u8 f.i0, .int .u8 f.i1, .sl f.subs.length (subCells (wsubs f.subs T f.subs.length))] := by rw [hwf]; show [_, _, _, _, AV.sl (wsubs f.subs T f.subs.length).length _] = _; rw [hwl]
  rw [hgc] at hPr
  unfold prR at hPr
  rw [hgd, if_pos rfl] at hPr
  have hPw := acall_sub hPr (sub_tup (ds := [.dead, .bool true]) ⟨.dead _, .refl _, trivial⟩)
  simp (maxSteps := 200000) only [hcf, push_cast, List.getD_cons_zero, List.getD_cons_succ, List.take_succ_cons, List.take_zero, List.drop_succ_cons, Nat.reduceLT, Nat.reduceLeDiff, Nat.reduceEqDiff, Nat.reduceAdd, Nat.reduceMul, Nat.reduceSub, Int.reduceToNat, Int.reduceLE, Int.reduceLT, Int.reduceEq, Int.reduceAdd, ↓reduceIte, decide_true, decide_false, and_self]
  refine call_intro (SubsClone_c f.subs h0 hn) (fun h => by cases h) ?_
  simp (maxSteps := 200000) only [hcf, push_cast, List.getD_cons_zero, List.getD_cons_succ, List.take_succ_cons, List.take_zero, List.drop_succ_cons, Nat.reduceLT, Nat.reduceLeDiff, Nat.reduceEqDiff, Nat.reduceAdd, Nat.reduceMul, Nat.reduceSub, Int.reduceToNat, Int.reduceLE, Int.reduceLT, Int.reduceEq, Int.reduceAdd, ↓reduceIte, decide_true, decide_false, and_self]
  refine run_keep (l' := [(31, .int .i64 0), (30, .int .i64 f.subs.length), (5, .bool false), (4, .addr 4 1 0), (2, .addr 2 0 0), (1, .sl T.length (txCells T))]) (t' := [(2, ⟨0, 1, [.str f.tag, .sl f.text.length (u8s f.text), .int .u8 f.i0, .int .u8 f.i1, .own 26 14 0 f.subs.length]⟩), (26, ⟨14, 2, subCells (wsubs f.subs T 0)⟩), (4, ⟨1, 1, [.str [], .nilS, .int .u8 0, .int .u8 0, .nilS]⟩)]) (nx' := _) ⟨.refl _, .refl _, .refl _, .refl _, .refl _, .refl _, trivial⟩ ⟨⟨_, rfl, rfl, rfl, SubL.refl _⟩, ⟨_, rfl, rfl, rfl, by rw [wsubs_zero]; exact SubL.refl _⟩, ⟨_, rfl, rfl, rfl, SubL.refl _⟩, trivial⟩ (Nat.le_refl _) ?_
  refine run_loop (fun n s => ∃ (i nx : Nat), i ≤ f.subs.length ∧ n = f.subs.length - i ∧ s = mkS [(31, .int .i64 i), (30, .int .i64 f.subs.length), (5, .bool false), (4, .addr 4 1 0), (2, .addr 2 0 0), (1, .sl T.length (txCells T))] [(2, ⟨0, 1, [.str f.tag, .sl f.text.length (u8s f.text), .int .u8 f.i0, .int .u8 f.i1, .own 26 14 0 f.subs.length]⟩), (26, ⟨14, 2, subCells (wsubs f.subs T i)⟩), (4, ⟨1, 1, [.str [], .nilS, .int .u8 0, .int .u8 0, .nilS]⟩)] nx) _ ⟨0, _, Nat.zero_le _, rfl, rfl⟩ ?_
  rintro n s ⟨i, nx, hi, rfl, rfl⟩
  have hsl : (subCells (wsubs f.subs T i)).length = f.subs.length * 2 := by rw [subCells_length, wsubs_length f.subs T hTl]
  have htl := txCells_length T
  by_cases h : i < f.subs.length
  · have hiT : i < T.length := by omega
    have hset := wsubs_set f.subs T i h hiT
    have gt := txCells_get T i hiT
    have hpos : 0 < f.subs.length * 2 := by omega
    have hposT : 0 < T.length := by omega
    have l1 : i * 2 + 1 < f.subs.length * 2 := by omega
    have hw : IntKind.i64.wrap ((i : Int) + 1) = ((i + 1 : Nat) : Int) := by rw [wrap_i64 (by omega)]; omega
    have htt := (hT _ (List.getElem_mem hiT)).2
    generalize T[i] = t at *
    have hct' : closedL (u8s t) = true := u8s_closed t
    refine ex_run 40 ?_
    simp (maxSteps := 200000) only [h, hiT, gt, hsl, htl, hpos, hposT, l1, hct', push_cast, List.getD_cons_zero, List.getD_cons_succ, List.take_succ_cons, List.take_zero, List.drop_succ_cons, Nat.reduceLT, Nat.reduceLeDiff, Nat.reduceEqDiff, Nat.reduceAdd, Nat.reduceMul, Nat.reduceSub, Int.reduceToNat, Int.reduceLE, Int.reduceLT, Int.reduceEq, Int.reduceAdd, ↓reduceIte, decide_true, decide_false, and_self]
    refine ⟨by kernel_rfl, ?_⟩
    refine call_introF (Clone_c t (by omega)) (fun h => by cases h) ?_
    simp (maxSteps := 200000) only [hw, h, hsl, hpos, l1, hset, push_cast, List.getD_cons_zero, List.getD_cons_succ, List.take_succ_cons, List.take_zero, List.drop_succ_cons, Nat.reduceLT, Nat.reduceLeDiff, Nat.reduceEqDiff, Nat.reduceAdd, Nat.reduceMul, Nat.reduceSub, Int.reduceToNat, Int.reduceLE, Int.reduceLT, Int.reduceEq, Int.reduceAdd, ↓reduceIte, decide_true, decide_false, and_self]
    refine ⟨by omega, okTr_of (by kernel_rfl), ?_⟩
    refine run_back_le (le_mk (l' := [(31, .int .i64 ((i + 1 : Nat) : Int)), (30, .int .i64 f.subs.length), (5, .bool false), (4, .addr 4 1 0), (2, .addr 2 0 0), (1, .sl T.length (txCells T))]) (t' := [(2, ⟨0, 1, [.str f.tag, .sl f.text.length (u8s f.text), .int .u8 f.i0, .int .u8 f.i1, .own 26 14 0 f.subs.length]⟩), (26, ⟨14, 2, subCells (wsubs f.subs T (i + 1))⟩), (4, ⟨1, 1, [.str [], .nilS, .int .u8 0, .int .u8 0, .nilS]⟩)]) (nx' := _)
      ⟨.of_eq (congrArg (AV.int .i64) (by omega)), .refl _, .refl _, .refl _, .refl _, .refl _, trivial⟩ ⟨⟨_, rfl, rfl, rfl, SubL.refl _⟩, ⟨_, rfl, rfl, rfl, SubL.refl _⟩, ⟨_, rfl, rfl, rfl, SubL.refl _⟩, trivial⟩ (Nat.le_refl _)) ?_
    exact ⟨f.subs.length - (i + 1), by omega, i + 1, _, by omega, rfl, rfl⟩
  · have hie : i = f.subs.length := by omega
    subst hie
    have hcw : closedL (subCells (wsubs f.subs T f.subs.length)) = true := subCells_closed _
    have htk : (subCells (wsubs f.subs T f.subs.length)).take (f.subs.length * 2) = subCells (wsubs f.subs T f.subs.length) := List.take_of_length_le (by omega)
    refine ex_run 40 ?_
    simp (maxSteps := 200000) only [h, hcw, htk, hsl, push_cast, List.getD_cons_zero, List.getD_cons_succ, List.take_succ_cons, List.take_zero, List.drop_succ_cons, Nat.reduceLT, Nat.reduceLeDiff, Nat.reduceEqDiff, Nat.reduceAdd, Nat.reduceMul, Nat.reduceSub, Int.reduceToNat, Int.reduceLE, Int.reduceLT, Int.reduceEq, Int.reduceAdd, ↓reduceIte, decide_true, decide_false, and_self]
    refine call_intro hPw (fun _ => ⟨rfl, fun T0 h => by cases h⟩) ?_
    simp (maxSteps := 200000) only [h, hcw, htk, hsl, push_cast, List.getD_cons_zero, List.getD_cons_succ, List.take_succ_cons, List.take_zero, List.drop_succ_cons, Nat.reduceLT, Nat.reduceLeDiff, Nat.reduceEqDiff, Nat.reduceAdd, Nat.reduceMul, Nat.reduceSub, Int.reduceToNat, Int.reduceLE, Int.reduceLT, Int.reduceEq, Int.reduceAdd, ↓reduceIte, decide_true, decide_false, and_self]
    exact ⟨[.agg [.str f.tag, .sl f.text.length (u8s f.text), .int .u8 f.i0, .int .u8 f.i1, .own 26 14 0 f.subs.length], .bool true], [.agg [.str f.tag, .sl f.text.length (u8s f.text), .int .u8 f.i0, .int .u8 f.i1, .own 0 0 0 f.subs.length], .bool true], by kernel_rfl, by simp [outA, outV, outL, outC, AV.closed, u8s_closed, mkS_tk, lkG], .refl _, ⟨_, rfl, hcw, rfl⟩⟩
end Go.Proofs.Yteapibifebnboaa
