/- The law DirPrints: at every argument it returns true. -/
import Derived.Test.YtbkmbiccdhnibaaDirM
set_option linter.unusedVariables false
set_option linter.unusedSimpArgs false
namespace Go.Proofs.Ytbkmbiccdhnibaa
open Go Go.Eng
theorem pok_app : ∀ {L M : List Ent} {next : Int}, pok next (L ++ M) = (pok next L && pok (next + lens L) M)
  | [], M, next => by simp [pok, lens]
  | e :: L, M, next => by rw [List.cons_append, pok, pok, pok_app, lens_cons, Bool.and_assoc, Int.add_assoc]
theorem pok_take_succ (L : List Ent) (i : Nat) (hi : i < L.length) : pok 0 (L.take (i + 1)) = (pok 0 (L.take i) && entOk (lens (L.take i)) L[i]) := by
  rw [List.take_add_one, List.getElem?_eq_getElem hi, pok_app, Int.zero_add]
  simp [pok]
theorem Parse_pbytes (L : List Ent) (hL : L.length ≤ 1000000) (h : pok 0 L = true) : ACall Try.prog 17 [.sl (pbytes L).length (u8s (pbytes L))] (.tup [.own 0 0 0 L.length, .agg [.int .i64 0, .int .i64 0]]) (some ⟨0, 3, lCells L⟩) := by
  have hl := pbytes_len h
  have hc : cellsTo (pbytes L) L.length = lCells L := by rw [cells_pbytes h _ (Nat.le_refl _), List.take_length]
  rw [← hc]
  refine Parse_run (pbytes L) (by omega) (pbytes_bytes h) (some 100) _ _ (fun k k1 k2 k3 => ?_) (fun m m1 m2 => ?_)
  · rw [good_pbytes h k (by omega)] at k2; cases k2
  · have : m = L.length := by omega
    subst this; exact ⟨rfl, rfl, rfl⟩
set_option maxRecDepth 100000 in
set_option maxHeartbeats 8000000 in
theorem DirPrints_c (L : List Ent) (hT : ∀ e ∈ L, e.1.length ≤ 9223372036854775807) : ACall Try.prog 4 [.sl L.length (lCells L)] (.bool true) none := by
  refine acall_intro none Try.func4 rfl (by kernel_rfl) (by simp [Try.f4]) ?_
  have hlen := lCells_length L
  have htk : (lCells L).take (L.length * 3) = lCells L := List.take_of_length_le (by omega)
  have hcl := lCells_closed L
  by_cases h : L.length ≤ 300
  · have h' : ¬ (300 : Int) < (L.length : Int) := by omega
    refine ex_run 30 ?_
    simp (maxSteps := 200000) only [Try.f4, h', htk, hlen, hcl, push_cast, List.getD_cons_zero, List.getD_cons_succ, List.take_succ_cons, List.take_zero, List.drop_succ_cons, Nat.reduceLT, Nat.reduceLeDiff, Nat.reduceEqDiff, Nat.reduceAdd, Nat.reduceMul, Nat.reduceSub, Int.reduceToNat, Int.reduceLE, Int.reduceLT, Int.reduceEq, Int.reduceAdd, ↓reduceIte, decide_true, decide_false, and_self]
    refine ⟨⟨by omega, by omega⟩, ?_⟩
    rcases (by cases pok 0 L <;> simp : pok 0 L = true ∨ pok 0 L = false) with hok | hok
    · refine call_intro (Print_run L (by omega) hT (some 100) _ _ (fun hx => by rw [hok] at hx; cases hx) (fun _ => ⟨rfl, rfl, rfl⟩)) (fun _ => ⟨rfl, fun T0 h => by cases h; exact u8s_noSl _⟩) ?_
      simp (maxSteps := 200000) only [htk, hlen, push_cast, List.getD_cons_zero, List.getD_cons_succ, List.take_succ_cons, List.take_zero, List.drop_succ_cons, Nat.reduceLT, Nat.reduceLeDiff, Nat.reduceEqDiff, Nat.reduceAdd, Nat.reduceMul, Nat.reduceSub, Int.reduceToNat, Int.reduceLE, Int.reduceLT, Int.reduceEq, Int.reduceAdd, ↓reduceIte, decide_true, decide_false, and_self]
      refine run_keep (l' := [(0, .sl L.length (lCells L)), (2, .bool false), (3, .own 19 7 0 (pbytes L).length), (4, .bool true), (5, .bool true), (6, .int .i64 0), (7, .int .i64 0)]) (t' := [(19, ⟨7, 1, u8s (pbytes L)⟩)]) (nx' := _) ⟨.refl _, .refl _, .refl _, .refl _, .refl _, .refl _, .refl _, trivial⟩ ⟨⟨_, rfl, rfl, rfl, SubL.refl _⟩, trivial⟩ (Nat.le_refl _) ?_
      refine run_loop (fun n s => ∃ (i nx : Nat) (m : Bool) (nxt : Int), i ≤ L.length ∧ n = L.length - i ∧ m = pok 0 (L.take i) ∧ (m = true → nxt = lens (L.take i)) ∧ s = mkS [(0, .sl L.length (lCells L)), (2, .bool false), (3, .own 19 7 0 (pbytes L).length), (4, .bool true), (5, .bool m), (6, .int .i64 nxt), (7, .int .i64 i)] [(19, ⟨7, 1, u8s (pbytes L)⟩)] nx) _ ⟨0, _, true, 0, Nat.zero_le _, rfl, rfl, fun _ => rfl, rfl⟩ ?_
      rintro n s ⟨i, nx, m, nxt, hi, rfl, hm, hnxt, rfl⟩
      by_cases h1 : i < L.length
      · have hpt := pok_take_succ L i h1
        have hls := lens_take_succ L i h1
        have hte := hT L[i] (List.getElem_mem h1)
        have g0 := lCells_get L i 0 h1 (by omega)
        have g1 := lCells_get L i 1 h1 (by omega)
        have g2 := lCells_get L i 2 h1 (by omega)
        have hcpos : 0 < L.length * 3 := by omega
        have hle0 : i * 3 < L.length * 3 := by omega
        have hle1 : i * 3 + 1 < L.length * 3 := by omega
        have hle2 : i * 3 + 2 < L.length * 3 := by omega
        have hw : IntKind.i64.wrap ((i : Int) + 1) = ((i + 1 : Nat) : Int) := by rw [wrap_i64 (by omega)]; omega
        rw [← hm] at hpt
        generalize L[i] = q at *
        obtain ⟨tag, ln, st⟩ := q
        simp only [eCells, List.getD_cons_zero, List.getD_cons_succ, Nat.add_zero] at g0 g1 g2
        cases m
        · refine ex_run 30 ?_
          simp (maxSteps := 200000) only [h1, hw, push_cast, List.getD_cons_zero, List.getD_cons_succ, List.take_succ_cons, List.take_zero, List.drop_succ_cons, Nat.reduceLT, Nat.reduceLeDiff, Nat.reduceEqDiff, Nat.reduceAdd, Nat.reduceMul, Nat.reduceSub, Int.reduceToNat, Int.reduceLE, Int.reduceLT, Int.reduceEq, Int.reduceAdd, ↓reduceIte, decide_true, decide_false, and_self]
          refine run_back_le (le_mk (l' := [(0, .sl L.length (lCells L)), (2, .bool false), (3, .own 19 7 0 (pbytes L).length), (4, .bool true), (5, .bool false), (6, .int .i64 nxt), (7, .int .i64 ((i + 1 : Nat) : Int))]) (t' := [(19, ⟨7, 1, u8s (pbytes L)⟩)]) (nx' := _) ⟨.refl _, .refl _, .refl _, .refl _, .refl _, .refl _, .refl _, trivial⟩ ⟨⟨_, rfl, rfl, rfl, SubL.refl _⟩, trivial⟩ (Nat.le_refl _)) ?_
          exact ⟨L.length - (i + 1), by omega, i + 1, _, false, nxt, by omega, rfl, by rw [hpt]; rfl, (fun hx => by cases hx), rfl⟩
        · have hnx := hnxt rfl
          subst hnx
          have hp : pok 0 (L.take i) = true := hm.symm
          have hpos : 0 ≤ lens (L.take i) := lens_nonneg fun e he => (pok_mem hp e he).2.1
          rw [Bool.true_and] at hpt
          have heo := entOk_out (next := lens (L.take i)) (e := (tag, ln, st))
          simp only at heo
          rw [← hpt] at heo
          generalize lens (L.take i) = nxt at *
          refine ex_run 30 ?_
          simp (maxSteps := 200000) only [h1, g0, g1, g2, hle0, hle1, hle2, hcpos, hlen, push_cast, List.getD_cons_zero, List.getD_cons_succ, List.take_succ_cons, List.take_zero, List.drop_succ_cons, Nat.reduceLT, Nat.reduceLeDiff, Nat.reduceEqDiff, Nat.reduceAdd, Nat.reduceMul, Nat.reduceSub, Int.reduceToNat, Int.reduceLE, Int.reduceLT, Int.reduceEq, Int.reduceAdd, ↓reduceIte, decide_true, decide_false, and_self]
          refine call_intro (RTag_c tag hte) (fun h => by cases h) ?_
          generalize hgt : goodTag tag = gt
          rw [hgt] at heo
          cases gt
          · have hF : false = pok 0 (L.take (i + 1)) := (Bool.eq_false_iff.2 fun hx => by have := heo.1 hx; simp at this).symm
            simp (maxSteps := 200000) only [hgt, h1, g0, g1, g2, hle0, hle1, hle2, hcpos, hlen, hw, push_cast, List.getD_cons_zero, List.getD_cons_succ, List.take_succ_cons, List.take_zero, List.drop_succ_cons, Nat.reduceLT, Nat.reduceLeDiff, Nat.reduceEqDiff, Nat.reduceAdd, Nat.reduceMul, Nat.reduceSub, Int.reduceToNat, Int.reduceLE, Int.reduceLT, Int.reduceEq, Int.reduceAdd, ↓reduceIte, decide_true, decide_false, and_self]
            refine run_back_le (le_mk (l' := [(0, .sl L.length (lCells L)), (2, .bool false), (3, .own 19 7 0 (pbytes L).length), (4, .bool true), (5, .bool false), (6, .int .i64 nxt), (7, .int .i64 ((i + 1 : Nat) : Int))]) (t' := [(19, ⟨7, 1, u8s (pbytes L)⟩)]) (nx' := _) ⟨.refl _, .refl _, .refl _, .refl _, .refl _, .refl _, .refl _, trivial⟩ ⟨⟨_, rfl, rfl, rfl, SubL.refl _⟩, trivial⟩ (Nat.le_refl _)) ?_
            exact ⟨L.length - (i + 1), by omega, i + 1, _, false, nxt, by omega, rfl, hF, (fun hx => by cases hx), rfl⟩
          · by_cases c1 : 1 ≤ ln
            · by_cases c2 : ln ≤ 9999
              · by_cases c3 : st = nxt
                · by_cases c4 : nxt ≤ 99999
                  · have hTr : true = pok 0 (L.take (i + 1)) := (heo.2 ⟨rfl, c1, c2, c3, c4⟩).symm
                    have w1 : IntKind.i64.wrap (nxt + ln) = nxt + ln := wrap_i64 (by omega)
                    simp (maxSteps := 200000) only [c1, c2, c3, c4, w1, h1, g0, g1, g2, hle0, hle1, hle2, hcpos, hlen, hw, push_cast, List.getD_cons_zero, List.getD_cons_succ, List.take_succ_cons, List.take_zero, List.drop_succ_cons, Nat.reduceLT, Nat.reduceLeDiff, Nat.reduceEqDiff, Nat.reduceAdd, Nat.reduceMul, Nat.reduceSub, Int.reduceToNat, Int.reduceLE, Int.reduceLT, Int.reduceEq, Int.reduceAdd, ↓reduceIte, decide_true, decide_false, and_self]
                    refine run_back_le (le_mk (l' := [(0, .sl L.length (lCells L)), (2, .bool false), (3, .own 19 7 0 (pbytes L).length), (4, .bool true), (5, .bool true), (6, .int .i64 (nxt + ln)), (7, .int .i64 ((i + 1 : Nat) : Int))]) (t' := [(19, ⟨7, 1, u8s (pbytes L)⟩)]) (nx' := _) ⟨.refl _, .refl _, .refl _, .refl _, .refl _, .refl _, .refl _, trivial⟩ ⟨⟨_, rfl, rfl, rfl, SubL.refl _⟩, trivial⟩ (Nat.le_refl _)) ?_
                    exact ⟨L.length - (i + 1), by omega, i + 1, _, true, nxt + ln, by omega, rfl, hTr, (fun _ => hls.symm), rfl⟩
                  · have hF : false = pok 0 (L.take (i + 1)) := (Bool.eq_false_iff.2 fun hx => by have := heo.1 hx; omega).symm
                    simp (maxSteps := 200000) only [c1, c2, c3, c4, h1, g0, g1, g2, hle0, hle1, hle2, hcpos, hlen, hw, push_cast, List.getD_cons_zero, List.getD_cons_succ, List.take_succ_cons, List.take_zero, List.drop_succ_cons, Nat.reduceLT, Nat.reduceLeDiff, Nat.reduceEqDiff, Nat.reduceAdd, Nat.reduceMul, Nat.reduceSub, Int.reduceToNat, Int.reduceLE, Int.reduceLT, Int.reduceEq, Int.reduceAdd, ↓reduceIte, decide_true, decide_false, and_self]
                    refine run_back_le (le_mk (l' := [(0, .sl L.length (lCells L)), (2, .bool false), (3, .own 19 7 0 (pbytes L).length), (4, .bool true), (5, .bool false), (6, .int .i64 nxt), (7, .int .i64 ((i + 1 : Nat) : Int))]) (t' := [(19, ⟨7, 1, u8s (pbytes L)⟩)]) (nx' := _) ⟨.refl _, .refl _, .refl _, .refl _, .refl _, .refl _, .refl _, trivial⟩ ⟨⟨_, rfl, rfl, rfl, SubL.refl _⟩, trivial⟩ (Nat.le_refl _)) ?_
                    exact ⟨L.length - (i + 1), by omega, i + 1, _, false, nxt, by omega, rfl, hF, (fun hx => by cases hx), rfl⟩
                · have hF : false = pok 0 (L.take (i + 1)) := (Bool.eq_false_iff.2 fun hx => by have := heo.1 hx; omega).symm
                  simp (maxSteps := 200000) only [c1, c2, c3, h1, g0, g1, g2, hle0, hle1, hle2, hcpos, hlen, hw, push_cast, List.getD_cons_zero, List.getD_cons_succ, List.take_succ_cons, List.take_zero, List.drop_succ_cons, Nat.reduceLT, Nat.reduceLeDiff, Nat.reduceEqDiff, Nat.reduceAdd, Nat.reduceMul, Nat.reduceSub, Int.reduceToNat, Int.reduceLE, Int.reduceLT, Int.reduceEq, Int.reduceAdd, ↓reduceIte, decide_true, decide_false, and_self]
                  refine run_back_le (le_mk (l' := [(0, .sl L.length (lCells L)), (2, .bool false), (3, .own 19 7 0 (pbytes L).length), (4, .bool true), (5, .bool false), (6, .int .i64 nxt), (7, .int .i64 ((i + 1 : Nat) : Int))]) (t' := [(19, ⟨7, 1, u8s (pbytes L)⟩)]) (nx' := _) ⟨.refl _, .refl _, .refl _, .refl _, .refl _, .refl _, .refl _, trivial⟩ ⟨⟨_, rfl, rfl, rfl, SubL.refl _⟩, trivial⟩ (Nat.le_refl _)) ?_
                  exact ⟨L.length - (i + 1), by omega, i + 1, _, false, nxt, by omega, rfl, hF, (fun hx => by cases hx), rfl⟩
              · have hF : false = pok 0 (L.take (i + 1)) := (Bool.eq_false_iff.2 fun hx => by have := heo.1 hx; omega).symm
                simp (maxSteps := 200000) only [c1, c2, h1, g0, g1, g2, hle0, hle1, hle2, hcpos, hlen, hw, push_cast, List.getD_cons_zero, List.getD_cons_succ, List.take_succ_cons, List.take_zero, List.drop_succ_cons, Nat.reduceLT, Nat.reduceLeDiff, Nat.reduceEqDiff, Nat.reduceAdd, Nat.reduceMul, Nat.reduceSub, Int.reduceToNat, Int.reduceLE, Int.reduceLT, Int.reduceEq, Int.reduceAdd, ↓reduceIte, decide_true, decide_false, and_self]
                refine run_back_le (le_mk (l' := [(0, .sl L.length (lCells L)), (2, .bool false), (3, .own 19 7 0 (pbytes L).length), (4, .bool true), (5, .bool false), (6, .int .i64 nxt), (7, .int .i64 ((i + 1 : Nat) : Int))]) (t' := [(19, ⟨7, 1, u8s (pbytes L)⟩)]) (nx' := _) ⟨.refl _, .refl _, .refl _, .refl _, .refl _, .refl _, .refl _, trivial⟩ ⟨⟨_, rfl, rfl, rfl, SubL.refl _⟩, trivial⟩ (Nat.le_refl _)) ?_
                exact ⟨L.length - (i + 1), by omega, i + 1, _, false, nxt, by omega, rfl, hF, (fun hx => by cases hx), rfl⟩
            · have hF : false = pok 0 (L.take (i + 1)) := (Bool.eq_false_iff.2 fun hx => by have := heo.1 hx; omega).symm
              simp (maxSteps := 200000) only [c1, h1, g0, g1, g2, hle0, hle1, hle2, hcpos, hlen, hw, push_cast, List.getD_cons_zero, List.getD_cons_succ, List.take_succ_cons, List.take_zero, List.drop_succ_cons, Nat.reduceLT, Nat.reduceLeDiff, Nat.reduceEqDiff, Nat.reduceAdd, Nat.reduceMul, Nat.reduceSub, Int.reduceToNat, Int.reduceLE, Int.reduceLT, Int.reduceEq, Int.reduceAdd, ↓reduceIte, decide_true, decide_false, and_self]
              refine run_back_le (le_mk (l' := [(0, .sl L.length (lCells L)), (2, .bool false), (3, .own 19 7 0 (pbytes L).length), (4, .bool true), (5, .bool false), (6, .int .i64 nxt), (7, .int .i64 ((i + 1 : Nat) : Int))]) (t' := [(19, ⟨7, 1, u8s (pbytes L)⟩)]) (nx' := _) ⟨.refl _, .refl _, .refl _, .refl _, .refl _, .refl _, .refl _, trivial⟩ ⟨⟨_, rfl, rfl, rfl, SubL.refl _⟩, trivial⟩ (Nat.le_refl _)) ?_
              exact ⟨L.length - (i + 1), by omega, i + 1, _, false, nxt, by omega, rfl, hF, (fun hx => by cases hx), rfl⟩
      · have hii : i = L.length := by omega
        subst hii
        rw [List.take_length, hok] at hm
        subst hm
        refine ex_run 30 ?_
        simp (maxSteps := 200000) only [h1, push_cast, List.getD_cons_zero, List.getD_cons_succ, List.take_succ_cons, List.take_zero, List.drop_succ_cons, Nat.reduceLT, Nat.reduceLeDiff, Nat.reduceEqDiff, Nat.reduceAdd, Nat.reduceMul, Nat.reduceSub, Int.reduceToNat, Int.reduceLE, Int.reduceLT, Int.reduceEq, Int.reduceAdd, ↓reduceIte, decide_true, decide_false, and_self]
        refine call_intro answers_c (fun h => by cases h) ?_
        simp (maxSteps := 200000) only [h1, push_cast, List.getD_cons_zero, List.getD_cons_succ, List.take_succ_cons, List.take_zero, List.drop_succ_cons, Nat.reduceLT, Nat.reduceLeDiff, Nat.reduceEqDiff, Nat.reduceAdd, Nat.reduceMul, Nat.reduceSub, Int.reduceToNat, Int.reduceLE, Int.reduceLT, Int.reduceEq, Int.reduceAdd, ↓reduceIte, decide_true, decide_false, and_self]
        rw [List.take_length]
        refine call_intro (Parse_pbytes L (by omega) hok) (fun _ => ⟨rfl, fun T0 h => by cases h; exact lCells_noSl L⟩) ?_
        have hpl : ((pbytes L).length : Int) = 12 * (L.length : Int) := by have := pbytes_len hok; omega
        have w2 : IntKind.i64.wrap (12 * (L.length : Int)) = 12 * (L.length : Int) := wrap_i64 (by omega)
        simp (maxSteps := 200000) only [h1, hpl, w2, push_cast, List.getD_cons_zero, List.getD_cons_succ, List.take_succ_cons, List.take_zero, List.drop_succ_cons, Nat.reduceLT, Nat.reduceLeDiff, Nat.reduceEqDiff, Nat.reduceAdd, Nat.reduceMul, Nat.reduceSub, Int.reduceToNat, Int.reduceLE, Int.reduceLT, Int.reduceEq, Int.reduceAdd, ↓reduceIte, decide_true, decide_false, and_self]
        generalize nx + 4 + 7 + 2 + 1 = g
        refine run_keep (l' := [(0, .sl L.length (lCells L)), (2, .bool false), (8, .own 88 g 0 L.length), (10, .int .i64 0)]) (t' := [(88, ⟨g, 3, lCells L⟩)]) (nx' := _) ⟨.refl _, .refl _, .refl _, .refl _, trivial⟩ ⟨⟨_, rfl, rfl, rfl, SubL.refl _⟩, trivial⟩ (Nat.le_refl _) ?_
        refine run_loop (fun n s => ∃ (i nx : Nat), i ≤ L.length ∧ n = L.length - i ∧ s = mkS [(0, .sl L.length (lCells L)), (2, .bool false), (8, .own 88 g 0 L.length), (10, .int .i64 i)] [(88, ⟨g, 3, lCells L⟩)] nx) _ ⟨0, _, Nat.zero_le _, rfl, rfl⟩ ?_
        rintro n s ⟨i, nx, hi, rfl, rfl⟩
        by_cases h2 : i < L.length
        · have hrow := lCells_row L i h2
          have hw : IntKind.i64.wrap ((i : Int) + 1) = ((i + 1 : Nat) : Int) := by rw [wrap_i64 (by omega)]; omega
          have hcpos : 0 < L.length * 3 := by omega
          have hle : i * 3 + 3 ≤ L.length * 3 := by omega
          generalize L[i] = q at *
          obtain ⟨tag, ln, st⟩ := q
          simp only [eCells] at hrow
          refine ex_run 30 ?_
          simp (maxSteps := 200000) only [h2, hrow, hle, hcpos, hlen, hw, beq_self_eq_true, push_cast, List.getD_cons_zero, List.getD_cons_succ, List.take_succ_cons, List.take_zero, List.drop_succ_cons, Nat.reduceLT, Nat.reduceLeDiff, Nat.reduceEqDiff, Nat.reduceAdd, Nat.reduceMul, Nat.reduceSub, Int.reduceToNat, Int.reduceLE, Int.reduceLT, Int.reduceEq, Int.reduceAdd, ↓reduceIte, decide_true, decide_false, and_self]
          refine ⟨by kernel_rfl, by kernel_rfl, ?_⟩
          refine run_back_le (le_mk (l' := [(0, .sl L.length (lCells L)), (2, .bool false), (8, .own 88 g 0 L.length), (10, .int .i64 ((i + 1 : Nat) : Int))]) (t' := [(88, ⟨g, 3, lCells L⟩)]) (nx' := _)
            ⟨.refl _, .refl _, .refl _, .of_eq (congrArg (AV.int .i64) (by omega)), trivial⟩ ⟨⟨_, rfl, rfl, rfl, SubL.refl _⟩, trivial⟩ (Nat.le_refl _)) ?_
          exact ⟨L.length - (i + 1), by omega, i + 1, _, by omega, rfl, rfl⟩
        · refine ex_run 30 ?_
          simp (maxSteps := 200000) only [h2, push_cast, List.getD_cons_zero, List.getD_cons_succ, List.take_succ_cons, List.take_zero, List.drop_succ_cons, Nat.reduceLT, Nat.reduceLeDiff, Nat.reduceEqDiff, Nat.reduceAdd, Nat.reduceMul, Nat.reduceSub, Int.reduceToNat, Int.reduceLE, Int.reduceLT, Int.reduceEq, Int.reduceAdd, ↓reduceIte, decide_true, decide_false, and_self]
          exact ⟨_, _, rfl, rfl, .refl _, rfl⟩
    · refine call_intro (Print_run L (by omega) hT none _ _ (fun _ => ⟨rfl, rfl, rfl⟩) (fun hx => by rw [hok] at hx; cases hx)) (fun _ => ⟨rfl, fun T0 h => by cases h⟩) ?_
      simp (maxSteps := 200000) only [htk, hlen, push_cast, List.getD_cons_zero, List.getD_cons_succ, List.take_succ_cons, List.take_zero, List.drop_succ_cons, Nat.reduceLT, Nat.reduceLeDiff, Nat.reduceEqDiff, Nat.reduceAdd, Nat.reduceMul, Nat.reduceSub, Int.reduceToNat, Int.reduceLE, Int.reduceLT, Int.reduceEq, Int.reduceAdd, ↓reduceIte, decide_true, decide_false, and_self]
      refine run_keep (l' := [(0, .sl L.length (lCells L)), (2, .bool false), (3, .nilS), (4, .bool false), (5, .bool true), (6, .int .i64 0), (7, .int .i64 0)]) (t' := []) (nx' := _) ⟨.refl _, .refl _, .refl _, .refl _, .refl _, .refl _, .refl _, trivial⟩ trivial (Nat.le_refl _) ?_
      refine run_loop (fun n s => ∃ (i nx : Nat) (m : Bool) (nxt : Int), i ≤ L.length ∧ n = L.length - i ∧ m = pok 0 (L.take i) ∧ (m = true → nxt = lens (L.take i)) ∧ s = mkS [(0, .sl L.length (lCells L)), (2, .bool false), (3, .nilS), (4, .bool false), (5, .bool m), (6, .int .i64 nxt), (7, .int .i64 i)] [] nx) _ ⟨0, _, true, 0, Nat.zero_le _, rfl, rfl, fun _ => rfl, rfl⟩ ?_
      rintro n s ⟨i, nx, m, nxt, hi, rfl, hm, hnxt, rfl⟩
      by_cases h1 : i < L.length
      · have hpt := pok_take_succ L i h1
        have hls := lens_take_succ L i h1
        have hte := hT L[i] (List.getElem_mem h1)
        have g0 := lCells_get L i 0 h1 (by omega)
        have g1 := lCells_get L i 1 h1 (by omega)
        have g2 := lCells_get L i 2 h1 (by omega)
        have hcpos : 0 < L.length * 3 := by omega
        have hle0 : i * 3 < L.length * 3 := by omega
        have hle1 : i * 3 + 1 < L.length * 3 := by omega
        have hle2 : i * 3 + 2 < L.length * 3 := by omega
        have hw : IntKind.i64.wrap ((i : Int) + 1) = ((i + 1 : Nat) : Int) := by rw [wrap_i64 (by omega)]; omega
        rw [← hm] at hpt
        generalize L[i] = q at *
        obtain ⟨tag, ln, st⟩ := q
        simp only [eCells, List.getD_cons_zero, List.getD_cons_succ, Nat.add_zero] at g0 g1 g2
        cases m
        · refine ex_run 30 ?_
          simp (maxSteps := 200000) only [h1, hw, push_cast, List.getD_cons_zero, List.getD_cons_succ, List.take_succ_cons, List.take_zero, List.drop_succ_cons, Nat.reduceLT, Nat.reduceLeDiff, Nat.reduceEqDiff, Nat.reduceAdd, Nat.reduceMul, Nat.reduceSub, Int.reduceToNat, Int.reduceLE, Int.reduceLT, Int.reduceEq, Int.reduceAdd, ↓reduceIte, decide_true, decide_false, and_self]
          refine run_back_le (le_mk (l' := [(0, .sl L.length (lCells L)), (2, .bool false), (3, .nilS), (4, .bool false), (5, .bool false), (6, .int .i64 nxt), (7, .int .i64 ((i + 1 : Nat) : Int))]) (t' := []) (nx' := _) ⟨.refl _, .refl _, .refl _, .refl _, .refl _, .refl _, .refl _, trivial⟩ trivial (Nat.le_refl _)) ?_
          exact ⟨L.length - (i + 1), by omega, i + 1, _, false, nxt, by omega, rfl, by rw [hpt]; rfl, (fun hx => by cases hx), rfl⟩
        · have hnx := hnxt rfl
          subst hnx
          have hp : pok 0 (L.take i) = true := hm.symm
          have hpos : 0 ≤ lens (L.take i) := lens_nonneg fun e he => (pok_mem hp e he).2.1
          rw [Bool.true_and] at hpt
          have heo := entOk_out (next := lens (L.take i)) (e := (tag, ln, st))
          simp only at heo
          rw [← hpt] at heo
          generalize lens (L.take i) = nxt at *
          refine ex_run 30 ?_
          simp (maxSteps := 200000) only [h1, g0, g1, g2, hle0, hle1, hle2, hcpos, hlen, push_cast, List.getD_cons_zero, List.getD_cons_succ, List.take_succ_cons, List.take_zero, List.drop_succ_cons, Nat.reduceLT, Nat.reduceLeDiff, Nat.reduceEqDiff, Nat.reduceAdd, Nat.reduceMul, Nat.reduceSub, Int.reduceToNat, Int.reduceLE, Int.reduceLT, Int.reduceEq, Int.reduceAdd, ↓reduceIte, decide_true, decide_false, and_self]
          refine call_intro (RTag_c tag hte) (fun h => by cases h) ?_
          generalize hgt : goodTag tag = gt
          rw [hgt] at heo
          cases gt
          · have hF : false = pok 0 (L.take (i + 1)) := (Bool.eq_false_iff.2 fun hx => by have := heo.1 hx; simp at this).symm
            simp (maxSteps := 200000) only [hgt, h1, g0, g1, g2, hle0, hle1, hle2, hcpos, hlen, hw, push_cast, List.getD_cons_zero, List.getD_cons_succ, List.take_succ_cons, List.take_zero, List.drop_succ_cons, Nat.reduceLT, Nat.reduceLeDiff, Nat.reduceEqDiff, Nat.reduceAdd, Nat.reduceMul, Nat.reduceSub, Int.reduceToNat, Int.reduceLE, Int.reduceLT, Int.reduceEq, Int.reduceAdd, ↓reduceIte, decide_true, decide_false, and_self]
            refine run_back_le (le_mk (l' := [(0, .sl L.length (lCells L)), (2, .bool false), (3, .nilS), (4, .bool false), (5, .bool false), (6, .int .i64 nxt), (7, .int .i64 ((i + 1 : Nat) : Int))]) (t' := []) (nx' := _) ⟨.refl _, .refl _, .refl _, .refl _, .refl _, .refl _, .refl _, trivial⟩ trivial (Nat.le_refl _)) ?_
            exact ⟨L.length - (i + 1), by omega, i + 1, _, false, nxt, by omega, rfl, hF, (fun hx => by cases hx), rfl⟩
          · by_cases c1 : 1 ≤ ln
            · by_cases c2 : ln ≤ 9999
              · by_cases c3 : st = nxt
                · by_cases c4 : nxt ≤ 99999
                  · have hTr : true = pok 0 (L.take (i + 1)) := (heo.2 ⟨rfl, c1, c2, c3, c4⟩).symm
                    have w1 : IntKind.i64.wrap (nxt + ln) = nxt + ln := wrap_i64 (by omega)
                    simp (maxSteps := 200000) only [c1, c2, c3, c4, w1, h1, g0, g1, g2, hle0, hle1, hle2, hcpos, hlen, hw, push_cast, List.getD_cons_zero, List.getD_cons_succ, List.take_succ_cons, List.take_zero, List.drop_succ_cons, Nat.reduceLT, Nat.reduceLeDiff, Nat.reduceEqDiff, Nat.reduceAdd, Nat.reduceMul, Nat.reduceSub, Int.reduceToNat, Int.reduceLE, Int.reduceLT, Int.reduceEq, Int.reduceAdd, ↓reduceIte, decide_true, decide_false, and_self]
                    refine run_back_le (le_mk (l' := [(0, .sl L.length (lCells L)), (2, .bool false), (3, .nilS), (4, .bool false), (5, .bool true), (6, .int .i64 (nxt + ln)), (7, .int .i64 ((i + 1 : Nat) : Int))]) (t' := []) (nx' := _) ⟨.refl _, .refl _, .refl _, .refl _, .refl _, .refl _, .refl _, trivial⟩ trivial (Nat.le_refl _)) ?_
                    exact ⟨L.length - (i + 1), by omega, i + 1, _, true, nxt + ln, by omega, rfl, hTr, (fun _ => hls.symm), rfl⟩
                  · have hF : false = pok 0 (L.take (i + 1)) := (Bool.eq_false_iff.2 fun hx => by have := heo.1 hx; omega).symm
                    simp (maxSteps := 200000) only [c1, c2, c3, c4, h1, g0, g1, g2, hle0, hle1, hle2, hcpos, hlen, hw, push_cast, List.getD_cons_zero, List.getD_cons_succ, List.take_succ_cons, List.take_zero, List.drop_succ_cons, Nat.reduceLT, Nat.reduceLeDiff, Nat.reduceEqDiff, Nat.reduceAdd, Nat.reduceMul, Nat.reduceSub, Int.reduceToNat, Int.reduceLE, Int.reduceLT, Int.reduceEq, Int.reduceAdd, ↓reduceIte, decide_true, decide_false, and_self]
                    refine run_back_le (le_mk (l' := [(0, .sl L.length (lCells L)), (2, .bool false), (3, .nilS), (4, .bool false), (5, .bool false), (6, .int .i64 nxt), (7, .int .i64 ((i + 1 : Nat) : Int))]) (t' := []) (nx' := _) ⟨.refl _, .refl _, .refl _, .refl _, .refl _, .refl _, .refl _, trivial⟩ trivial (Nat.le_refl _)) ?_
                    exact ⟨L.length - (i + 1), by omega, i + 1, _, false, nxt, by omega, rfl, hF, (fun hx => by cases hx), rfl⟩
                · have hF : false = pok 0 (L.take (i + 1)) := (Bool.eq_false_iff.2 fun hx => by have := heo.1 hx; omega).symm
                  simp (maxSteps := 200000) only [c1, c2, c3, h1, g0, g1, g2, hle0, hle1, hle2, hcpos, hlen, hw, push_cast, List.getD_cons_zero, List.getD_cons_succ, List.take_succ_cons, List.take_zero, List.drop_succ_cons, Nat.reduceLT, Nat.reduceLeDiff, Nat.reduceEqDiff, Nat.reduceAdd, Nat.reduceMul, Nat.reduceSub, Int.reduceToNat, Int.reduceLE, Int.reduceLT, Int.reduceEq, Int.reduceAdd, ↓reduceIte, decide_true, decide_false, and_self]
                  refine run_back_le (le_mk (l' := [(0, .sl L.length (lCells L)), (2, .bool false), (3, .nilS), (4, .bool false), (5, .bool false), (6, .int .i64 nxt), (7, .int .i64 ((i + 1 : Nat) : Int))]) (t' := []) (nx' := _) ⟨.refl _, .refl _, .refl _, .refl _, .refl _, .refl _, .refl _, trivial⟩ trivial (Nat.le_refl _)) ?_
                  exact ⟨L.length - (i + 1), by omega, i + 1, _, false, nxt, by omega, rfl, hF, (fun hx => by cases hx), rfl⟩
              · have hF : false = pok 0 (L.take (i + 1)) := (Bool.eq_false_iff.2 fun hx => by have := heo.1 hx; omega).symm
                simp (maxSteps := 200000) only [c1, c2, h1, g0, g1, g2, hle0, hle1, hle2, hcpos, hlen, hw, push_cast, List.getD_cons_zero, List.getD_cons_succ, List.take_succ_cons, List.take_zero, List.drop_succ_cons, Nat.reduceLT, Nat.reduceLeDiff, Nat.reduceEqDiff, Nat.reduceAdd, Nat.reduceMul, Nat.reduceSub, Int.reduceToNat, Int.reduceLE, Int.reduceLT, Int.reduceEq, Int.reduceAdd, ↓reduceIte, decide_true, decide_false, and_self]
                refine run_back_le (le_mk (l' := [(0, .sl L.length (lCells L)), (2, .bool false), (3, .nilS), (4, .bool false), (5, .bool false), (6, .int .i64 nxt), (7, .int .i64 ((i + 1 : Nat) : Int))]) (t' := []) (nx' := _) ⟨.refl _, .refl _, .refl _, .refl _, .refl _, .refl _, .refl _, trivial⟩ trivial (Nat.le_refl _)) ?_
                exact ⟨L.length - (i + 1), by omega, i + 1, _, false, nxt, by omega, rfl, hF, (fun hx => by cases hx), rfl⟩
            · have hF : false = pok 0 (L.take (i + 1)) := (Bool.eq_false_iff.2 fun hx => by have := heo.1 hx; omega).symm
              simp (maxSteps := 200000) only [c1, h1, g0, g1, g2, hle0, hle1, hle2, hcpos, hlen, hw, push_cast, List.getD_cons_zero, List.getD_cons_succ, List.take_succ_cons, List.take_zero, List.drop_succ_cons, Nat.reduceLT, Nat.reduceLeDiff, Nat.reduceEqDiff, Nat.reduceAdd, Nat.reduceMul, Nat.reduceSub, Int.reduceToNat, Int.reduceLE, Int.reduceLT, Int.reduceEq, Int.reduceAdd, ↓reduceIte, decide_true, decide_false, and_self]
              refine run_back_le (le_mk (l' := [(0, .sl L.length (lCells L)), (2, .bool false), (3, .nilS), (4, .bool false), (5, .bool false), (6, .int .i64 nxt), (7, .int .i64 ((i + 1 : Nat) : Int))]) (t' := []) (nx' := _) ⟨.refl _, .refl _, .refl _, .refl _, .refl _, .refl _, .refl _, trivial⟩ trivial (Nat.le_refl _)) ?_
              exact ⟨L.length - (i + 1), by omega, i + 1, _, false, nxt, by omega, rfl, hF, (fun hx => by cases hx), rfl⟩
      · have hii : i = L.length := by omega
        subst hii
        rw [List.take_length, hok] at hm
        subst hm
        refine ex_run 30 ?_
        simp (maxSteps := 200000) only [h1, push_cast, List.getD_cons_zero, List.getD_cons_succ, List.take_succ_cons, List.take_zero, List.drop_succ_cons, Nat.reduceLT, Nat.reduceLeDiff, Nat.reduceEqDiff, Nat.reduceAdd, Nat.reduceMul, Nat.reduceSub, Int.reduceToNat, Int.reduceLE, Int.reduceLT, Int.reduceEq, Int.reduceAdd, ↓reduceIte, decide_true, decide_false, and_self]
        refine call_intro answers_c (fun h => by cases h) ?_
        simp (maxSteps := 200000) only [h1, push_cast, List.getD_cons_zero, List.getD_cons_succ, List.take_succ_cons, List.take_zero, List.drop_succ_cons, Nat.reduceLT, Nat.reduceLeDiff, Nat.reduceEqDiff, Nat.reduceAdd, Nat.reduceMul, Nat.reduceSub, Int.reduceToNat, Int.reduceLE, Int.reduceLT, Int.reduceEq, Int.reduceAdd, ↓reduceIte, decide_true, decide_false, and_self]
        exact ⟨_, _, rfl, rfl, .refl _, rfl⟩
  · have h' : (300 : Int) < (L.length : Int) := by omega
    refine ex_run 30 ?_
    simp (maxSteps := 200000) only [Try.f4, h', push_cast, List.getD_cons_zero, List.getD_cons_succ, List.take_succ_cons, List.take_zero, List.drop_succ_cons, Nat.reduceLT, Nat.reduceLeDiff, Nat.reduceEqDiff, Nat.reduceAdd, Nat.reduceMul, Nat.reduceSub, Int.reduceToNat, Int.reduceLE, Int.reduceLT, Int.reduceEq, Int.reduceAdd, ↓reduceIte, decide_true, decide_false, and_self]
    refine call_intro answers_c (fun h => by cases h) ?_
    simp (maxSteps := 200000) only [push_cast, List.getD_cons_zero, List.getD_cons_succ, List.take_succ_cons, List.take_zero, List.drop_succ_cons, Nat.reduceLT, Nat.reduceLeDiff, Nat.reduceEqDiff, Nat.reduceAdd, Nat.reduceMul, Nat.reduceSub, Int.reduceToNat, Int.reduceLE, Int.reduceLT, Int.reduceEq, Int.reduceAdd, ↓reduceIte, decide_true, decide_false, and_self]
    exact ⟨_, _, rfl, rfl, .refl _, rfl⟩
theorem opens_struct3 {P : Program} {H : Type} {t : TypeId} {f0 f1 f2 : Field} {R0 R1 R2 : List AV → Prop} (ht : P.underlying t = some (.struct #[f0, f1, f2])) (h0 : Opens P H f0.type R0) (h1 : Opens P H f1.type R1) (h2 : Opens P H f2.type R2)
    (o0 : f0.offset = 0) (o1 : f1.offset = P.cellsOf f0.type) (o2 : f2.offset = P.cellsOf f0.type + P.cellsOf f1.type) (tot : P.cellsOf t = P.cellsOf f0.type + P.cellsOf f1.type + P.cellsOf f2.type) :
    Opens P H t fun xs => ∃ a b c, R0 a ∧ R1 b ∧ R2 c ∧ xs = a ++ (b ++ c) := by
  refine (opens_struct (Rs := [(f0, R0), (f1, R1), (f2, R2)]) ht rfl (fun i p hp => ?_) (by simp [tot, Nat.add_assoc]) (fun p hp => ?_)).imp ?_
  · match i, hp with
    | 0, hp => cases hp; simpa using o0
    | 1, hp => cases hp; simpa using o1
    | 2, hp => cases hp; simpa using o2
    | n + 3, hp => simp at hp
  · simp only [List.mem_cons, List.not_mem_nil, or_false] at hp
    rcases hp with rfl | rfl | rfl
    · exact h0
    · exact h1
    · exact h2
  · rintro xs ⟨parts, hl, hp, rfl⟩
    match parts, hl with
    | [a, b, c], _ =>
      exact ⟨a, b, c, (hp 0 _ a rfl rfl).1, (hp 1 _ b rfl rfl).1, (hp 2 _ c rfl rfl).1, by simp⟩
theorem opensEntry {H : Type} : Opens Try.prog H 31 fun xs => ∃ e : Ent, e.1.length ≤ maxLen ∧ (∀ c ∈ e.1, 0 ≤ c ∧ c < 256) ∧ xs = eCells e := by
  refine (opens_struct3 Try.underlying31 (opens_str Try.underlying9) (opens_int Try.underlying3) (opens_int Try.underlying3) (by kernel_rfl) (by kernel_rfl) (by kernel_rfl) (by kernel_rfl)).imp ?_
  rintro xs ⟨a, b, c, ⟨l, l1, l2, rfl⟩, ⟨n, _, rfl⟩, ⟨m, _, rfl⟩, rfl⟩
  exact ⟨(l, n, m), l2, l1, rfl⟩
theorem opensEntries {H : Type} : Opens Try.prog H 24 fun xs => ∃ L : List Ent, (∀ e ∈ L, e.1.length ≤ 9223372036854775807) ∧ L.length ≤ maxLen ∧ xs = [.sl L.length (lCells L)] := by
  refine (opens_slice (s := 3) Try.underlying24 (by kernel_rfl) (by omega) opensEntry).imp ?_
  rintro xs ⟨els, h1, h2, rfl⟩
  obtain ⟨L, rfl⟩ := all_form (f := eCells) h1 fun c hc => let ⟨⟨e, _, _, h⟩, _⟩ := hc; ⟨e, h⟩
  refine ⟨L, fun e he => ?_, by simpa using h2, by rw [List.length_map]; rfl⟩
  obtain ⟨⟨e', l1, l2, h⟩, _⟩ := h1 (eCells e) (List.mem_map.2 ⟨e, he, rfl⟩)
  simp only [eCells, List.cons.injEq, AV.str.injEq, AV.int.injEq, true_and, and_true] at h
  rw [h.1]; exact l1
theorem DirPrints_call {a : AV} (h : ∃ L : List Ent, (∀ e ∈ L, e.1.length ≤ 9223372036854775807) ∧ L.length ≤ maxLen ∧ [a] = [.sl L.length (lCells L)]) : ACall Try.prog 4 [a] (.bool true) none := by
  obtain ⟨L, h1, _, e⟩ := h
  cases e
  exact DirPrints_c L h1
end Go.Proofs.Ytbkmbiccdhnibaa
