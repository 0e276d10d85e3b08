/- dir.Print -/
import Derived.Test.YtbkmbiccdhnibaaDirL
set_option linter.unusedVariables false
set_option linter.unusedSimpArgs false
namespace Go.Proofs.Ytbkmbiccdhnibaa
open Go Go.Eng
theorem fixed_n (n : Int) (sz : Nat) (k : Int) (hk : k = sz) (hn : 0 ≤ n ∧ n ≤ 9223372036854775807) (hs : sz ≤ 1000) : ACall Try.prog 45 [.int .i64 n, .int .i64 k] (.str (fixedL sz n)) none := by
  subst hk; exact fixed_c n sz hn hs
theorem lens_nonneg : ∀ {L : List Ent}, (∀ e ∈ L, 1 ≤ e.2.1) → 0 ≤ lens L
  | [], _ => by simp [lens]
  | e :: L, h => by
    have := lens_nonneg fun e he => h e (List.mem_cons_of_mem _ he)
    have := h e List.mem_cons_self
    rw [lens_cons]; omega
def prS (L : List Ent) (i g nx : Nat) : AS := mkS [(0, .sl L.length (lCells L)), (2, .nilS), (3, .bool false), (4, .own 100 g 0 (pbytes (L.take i)).length), (5, .int .i64 (lens (L.take i))), (8, .sl L.length (lCells L)), (9, .int .i64 L.length), (10, .int .i64 i)] [(100, ⟨g, 1, u8s (pbytes (L.take i))⟩)] nx
theorem pbytes_snoc (L : List Ent) (i : Nat) (hi : i < L.length) : pbytes (L.take (i + 1)) = pbytes (L.take i) ++ ebytes L[i] := by
  unfold pbytes
  rw [List.take_add_one, List.getElem?_eq_getElem hi, List.flatMap_append]; simp
theorem pok_not {L : List Ent} {i : Nat} (hi : i < L.length) (h : entOk (lens (L.take i)) L[i] = false) : pok 0 L = false := by
  rw [Bool.eq_false_iff]; intro hp
  have := pok_at hp i hi
  rw [Int.zero_add, h] at this; cases this
set_option maxRecDepth 100000 in
set_option maxHeartbeats 4000000 in
theorem Print_run (L : List Ent) (hL : L.length ≤ 1000000) (hT : ∀ e ∈ L, e.1.length ≤ 9223372036854775807) (t0 : Option Nat) (r : AV) (T : Option Tok)
    (hbad : pok 0 L = false → t0 = none ∧ r = .tup [.nilS, .bool false] ∧ T = none)
    (hgood : pok 0 L = true → t0 = some 100 ∧ r = .tup [.own 0 0 0 (pbytes L).length, .bool true] ∧ T = some ⟨0, 1, u8s (pbytes L)⟩) :
    ACall Try.prog 19 [.sl L.length (lCells L)] r T := by
  refine acall_intro t0 Try.func19 rfl (by kernel_rfl) (by simp [Try.f19]) ?_
  refine ex_run 30 ?_
  simp (maxSteps := 200000) only [Try.f19, push_cast, List.getD_cons_zero, List.getD_cons_succ, List.take_succ_cons, List.take_zero, List.drop_succ_cons, Nat.reduceLT, Nat.reduceLeDiff, Nat.reduceEqDiff, Nat.reduceAdd, Nat.reduceMul, Nat.reduceSub, Int.reduceToNat, Int.reduceLE, Int.reduceLT, Int.reduceEq, Int.reduceAdd, ↓reduceIte, decide_true, decide_false, and_self]
  refine run_lazy 4 100 1 rfl ?_
  refine run_keep (l' := [(0, .sl L.length (lCells L)), (2, .nilS), (3, .bool false), (4, .own 100 _ 0 0), (5, .int .i64 0), (8, .sl L.length (lCells L)), (9, .int .i64 L.length), (10, .int .i64 0)]) (t' := [(100, ⟨_, 1, []⟩)]) (nx' := _) ⟨.refl _, .refl _, .refl _, .refl _, .refl _, .refl _, .refl _, .refl _, trivial⟩ ⟨⟨_, rfl, rfl, rfl, SubL.refl _⟩, trivial⟩ (Nat.le_refl _) ?_
  refine run_loop (fun n s => ∃ (i g nx : Nat), i ≤ L.length ∧ n = L.length - i ∧ (∀ (j : Nat) (hj : j < L.length), j < i → entOk (lens (L.take j)) L[j] = true) ∧ s = prS L i g nx) _ ⟨0, _, _, Nat.zero_le _, rfl, fun j _ h => by omega, rfl⟩ ?_
  rintro n s ⟨i, g, nx, hi, rfl, hall, rfl⟩
  unfold prS
  have hlen := lCells_length L
  by_cases h : i < L.length
  · have hrow := lCells_row L i h
    have hsnoc := pbytes_snoc L i h
    have hls := lens_take_succ L i h
    have hte := hT L[i] (List.getElem_mem h)
    have hp : pok 0 (L.take i) = true := pok_of fun j hj => by
      rw [List.length_take] at hj
      rw [Int.zero_add, List.getElem_take, List.take_take, Nat.min_eq_left (by omega)]
      exact hall j (by omega) (by omega)
    have hpos : 0 ≤ lens (L.take i) := lens_nonneg fun e he => (pok_mem hp e he).2.1
    have hplen : (pbytes (L.take i)).length = i * 12 := by
      have := pbytes_len hp
      rw [List.length_take, Nat.min_eq_left (by omega)] at this; exact this
    have hw : IntKind.i64.wrap ((i : Int) + 1) = ((i + 1 : Nat) : Int) := by rw [wrap_i64 (by omega)]; omega
    have hcpos : 0 < L.length * 3 := by omega
    have hle : i * 3 + 3 ≤ L.length * 3 := by omega
    have hok0 : entOk (lens (L.take i)) L[i] = true ∨ entOk (lens (L.take i)) L[i] = false := by cases entOk (lens (L.take i)) L[i] <;> simp
    have hnot := pok_not (L := L) h
    have hallS : entOk (lens (L.take i)) L[i] = true → ∀ (j : Nat) (hj : j < L.length), j < i + 1 → entOk (lens (L.take j)) L[j] = true := fun he j hj hji => by
      by_cases e : j = i
      · subst e; exact he
      · exact hall j hj (by omega)
    generalize hnext : lens (L.take i) = next at *
    generalize hq : L[i] = q at *
    obtain ⟨tag, ln, st⟩ := q
    simp only [eCells] at hrow
    rcases hok0 with hok | hok
    · obtain ⟨g1, g2, g3, g4, g5⟩ := entOk_out.1 hok
      simp only at g1 g2 g3 g4 g5 hte hls
      have c1 : ¬ ln < 1 := by omega
      have c2 : ¬ 9999 < ln := by omega
      have c3 : ¬ 99999 < next := by omega
      have w1 : IntKind.i64.wrap (next + ln) = next + ln := wrap_i64 (by omega)
      refine ex_run 30 ?_
      simp (maxSteps := 200000) only [h, hrow, hlen, hle, hcpos, push_cast, List.getD_cons_zero, List.getD_cons_succ, List.take_succ_cons, List.take_zero, List.drop_succ_cons, Nat.reduceLT, Nat.reduceLeDiff, Nat.reduceEqDiff, Nat.reduceAdd, Nat.reduceMul, Nat.reduceSub, Int.reduceToNat, Int.reduceLE, Int.reduceLT, Int.reduceEq, Int.reduceAdd, ↓reduceIte, decide_true, decide_false, and_self]
      refine call_intro (GoodTag_c tag hte) (fun h => by cases h) ?_
      rw [g1]
      simp (maxSteps := 200000) only [c1, c2, c3, g4, w1, push_cast, List.getD_cons_zero, List.getD_cons_succ, List.take_succ_cons, List.take_zero, List.drop_succ_cons, Nat.reduceLT, Nat.reduceLeDiff, Nat.reduceEqDiff, Nat.reduceAdd, Nat.reduceMul, Nat.reduceSub, Int.reduceToNat, Int.reduceLE, Int.reduceLT, Int.reduceEq, Int.reduceAdd, ↓reduceIte, decide_true, decide_false, and_self]
      refine ⟨by kernel_rfl, ?_⟩
      refine call_introF (fixed_n ln 4 _ rfl (by omega) (by omega)) (fun h => by cases h) ?_
      have f4 := fixedL_length 4 ln
      have f5 := fixedL_length 5 next
      have t3 := goodTag_len g1
      have heb : ebytes (tag, ln, st) = tag ++ fixedL 4 ln ++ fixedL 5 next := by rw [← g4]; rfl
      generalize fixedL 4 ln = d4 at *
      simp (maxSteps := 200000) only [c1, c2, c3, g4, w1, hplen, u8s_append, push_cast, List.getD_cons_zero, List.getD_cons_succ, List.take_succ_cons, List.take_zero, List.drop_succ_cons, Nat.reduceLT, Nat.reduceLeDiff, Nat.reduceEqDiff, Nat.reduceAdd, Nat.reduceMul, Nat.reduceSub, Int.reduceToNat, Int.reduceLE, Int.reduceLT, Int.reduceEq, Int.reduceAdd, ↓reduceIte, decide_true, decide_false, and_self]
      refine ⟨by omega, ?_⟩
      refine call_introF (fixed_n next 5 _ rfl (by omega) (by omega)) (fun h => by cases h) ?_
      generalize fixedL 5 next = d5 at *
      simp (maxSteps := 200000) only [c1, c2, c3, g4, w1, hplen, hw, u8s_append, List.length_append, push_cast, List.getD_cons_zero, List.getD_cons_succ, List.take_succ_cons, List.take_zero, List.drop_succ_cons, Nat.reduceLT, Nat.reduceLeDiff, Nat.reduceEqDiff, Nat.reduceAdd, Nat.reduceMul, Nat.reduceSub, Int.reduceToNat, Int.reduceLE, Int.reduceLT, Int.reduceEq, Int.reduceAdd, ↓reduceIte, decide_true, decide_false, and_self]
      refine ⟨by omega, ⟨by omega, by omega⟩, by kernel_rfl, ?_⟩
      have hb2 : pbytes (L.take i) ++ (tag ++ d4 ++ d5) = pbytes (L.take (i + 1)) := by rw [hsnoc, heb]
      have hl2 : i * 12 + (tag.length + d4.length + d5.length) = (pbytes (L.take (i + 1))).length := by rw [← hb2]; simp only [List.length_append]; omega
      rw [hl2, hb2, ← hls]
      refine run_back_le (le_mk (l' := [(0, .sl L.length (lCells L)), (2, .nilS), (3, .bool false), (4, .own 100 _ 0 (pbytes (L.take (i + 1))).length), (5, .int .i64 (lens (L.take (i + 1)))), (8, .sl L.length (lCells L)), (9, .int .i64 L.length), (10, .int .i64 ((i + 1 : Nat) : Int))])
        (t' := [(100, ⟨_, 1, u8s (pbytes (L.take (i + 1)))⟩)]) (nx' := _) ⟨.refl _, .refl _, .refl _, .refl _, .refl _, .refl _, .refl _, .refl _, trivial⟩ ⟨⟨_, rfl, rfl, rfl, SubL.refl _⟩, trivial⟩ (Nat.le_refl _)) ?_
      exact ⟨L.length - (i + 1), by omega, i + 1, _, _, by omega, rfl, hallS hok, rfl⟩
    · obtain ⟨rfl, rfl, rfl⟩ := hbad (hnot hok)
      refine ex_run 30 ?_
      simp (maxSteps := 200000) only [h, hrow, hlen, hle, hcpos, push_cast, List.getD_cons_zero, List.getD_cons_succ, List.take_succ_cons, List.take_zero, List.drop_succ_cons, Nat.reduceLT, Nat.reduceLeDiff, Nat.reduceEqDiff, Nat.reduceAdd, Nat.reduceMul, Nat.reduceSub, Int.reduceToNat, Int.reduceLE, Int.reduceLT, Int.reduceEq, Int.reduceAdd, ↓reduceIte, decide_true, decide_false, and_self]
      refine call_intro (GoodTag_c tag hte) (fun h => by cases h) ?_
      generalize hgt : goodTag tag = gt
      have hok' : ¬ (gt = true ∧ 1 ≤ ln ∧ ln ≤ 9999 ∧ st = next ∧ next ≤ 99999) := fun hx => by
        rw [← hgt] at hx
        have := (entOk_out (next := next) (e := (tag, ln, st))).2 hx
        rw [hok] at this; cases this
      cases gt
      · simp (maxSteps := 200000) only [push_cast, List.getD_cons_zero, List.getD_cons_succ, List.take_succ_cons, List.take_zero, List.drop_succ_cons, Nat.reduceLT, Nat.reduceLeDiff, Nat.reduceEqDiff, Nat.reduceAdd, Nat.reduceMul, Nat.reduceSub, Int.reduceToNat, Int.reduceLE, Int.reduceLT, Int.reduceEq, Int.reduceAdd, ↓reduceIte, decide_true, decide_false, and_self]
        exact ⟨_, _, rfl, rfl, .refl _, rfl⟩
      · by_cases c1 : ln < 1
        · simp (maxSteps := 200000) only [c1, push_cast, List.getD_cons_zero, List.getD_cons_succ, List.take_succ_cons, List.take_zero, List.drop_succ_cons, Nat.reduceLT, Nat.reduceLeDiff, Nat.reduceEqDiff, Nat.reduceAdd, Nat.reduceMul, Nat.reduceSub, Int.reduceToNat, Int.reduceLE, Int.reduceLT, Int.reduceEq, Int.reduceAdd, ↓reduceIte, decide_true, decide_false, and_self]
          exact ⟨_, _, rfl, rfl, .refl _, rfl⟩
        · by_cases c2 : 9999 < ln
          · simp (maxSteps := 200000) only [c1, c2, push_cast, List.getD_cons_zero, List.getD_cons_succ, List.take_succ_cons, List.take_zero, List.drop_succ_cons, Nat.reduceLT, Nat.reduceLeDiff, Nat.reduceEqDiff, Nat.reduceAdd, Nat.reduceMul, Nat.reduceSub, Int.reduceToNat, Int.reduceLE, Int.reduceLT, Int.reduceEq, Int.reduceAdd, ↓reduceIte, decide_true, decide_false, and_self]
            exact ⟨_, _, rfl, rfl, .refl _, rfl⟩
          · by_cases c3 : st = next
            · have c4 : 99999 < next := Classical.byContradiction fun hc => hok' ⟨rfl, by omega, by omega, c3, by omega⟩
              simp (maxSteps := 200000) only [c1, c2, c3, c4, push_cast, List.getD_cons_zero, List.getD_cons_succ, List.take_succ_cons, List.take_zero, List.drop_succ_cons, Nat.reduceLT, Nat.reduceLeDiff, Nat.reduceEqDiff, Nat.reduceAdd, Nat.reduceMul, Nat.reduceSub, Int.reduceToNat, Int.reduceLE, Int.reduceLT, Int.reduceEq, Int.reduceAdd, ↓reduceIte, decide_true, decide_false, and_self]
              exact ⟨_, _, rfl, rfl, .refl _, rfl⟩
            · simp (maxSteps := 200000) only [c1, c2, c3, push_cast, List.getD_cons_zero, List.getD_cons_succ, List.take_succ_cons, List.take_zero, List.drop_succ_cons, Nat.reduceLT, Nat.reduceLeDiff, Nat.reduceEqDiff, Nat.reduceAdd, Nat.reduceMul, Nat.reduceSub, Int.reduceToNat, Int.reduceLE, Int.reduceLT, Int.reduceEq, Int.reduceAdd, ↓reduceIte, decide_true, decide_false, and_self]
              exact ⟨_, _, rfl, rfl, .refl _, rfl⟩
  · have hii : i = L.length := by omega
    subst hii
    have hp : pok 0 L = true := pok_of fun j hj => by rw [Int.zero_add]; exact hall j hj hj
    obtain ⟨rfl, rfl, rfl⟩ := hgood hp
    refine ex_run 30 ?_
    simp (maxSteps := 200000) only [h, List.take_length, push_cast, List.getD_cons_zero, List.getD_cons_succ, List.take_succ_cons, List.take_zero, List.drop_succ_cons, Nat.reduceLT, Nat.reduceLeDiff, Nat.reduceEqDiff, Nat.reduceAdd, Nat.reduceMul, Nat.reduceSub, Int.reduceToNat, Int.reduceLE, Int.reduceLT, Int.reduceEq, Int.reduceAdd, ↓reduceIte, decide_true, decide_false, and_self]
    exact ⟨_, [.own 0 0 0 (pbytes L).length, .bool true], rfl, by simp [outA, outV, outC, mkS_env, mkS_tk, lkF, lkG, AV.closed], .refl _, ⟨_, rfl, u8s_closed _, rfl⟩⟩
end Go.Proofs.Ytbkmbiccdhnibaa
