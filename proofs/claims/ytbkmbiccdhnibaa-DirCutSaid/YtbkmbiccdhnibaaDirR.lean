/- The law DirCut: at every argument it returns true. -/
import Derived.Test.YtbkmbiccdhnibaaDirO
set_option linter.unusedVariables false
set_option linter.unusedSimpArgs false
namespace Go.Proofs.Ytbkmbiccdhnibaa
open Go Go.Eng
theorem Parse_cut (L : List Ent) (hL : L.length ≤ 1000000) (h : pok 0 L = true) (k : Nat) (hk : k < (pbytes L).length) (h12 : k % 12 = 0) (m : Nat) (hm : m = k) (cs : List AV) (hc : cs = u8s ((pbytes L).take k)) :
    ACall Try.prog 17 [.sl m cs] (.tup [.own 0 0 0 (k / 12), .agg [.int .i64 0, .int .i64 0]]) (some ⟨0, 3, cellsTo ((pbytes L).take k) (k / 12)⟩) := by
  subst hm; subst hc
  have hl := pbytes_len h
  have hlk : ((pbytes L).take m).length = m := by rw [List.length_take]; omega
  have := Parse_run ((pbytes L).take m) (by omega) (fun c hc => pbytes_bytes h c (List.mem_of_mem_take hc)) (some 100) (.tup [.own 0 0 0 (m / 12), .agg [.int .i64 0, .int .i64 0]]) (some ⟨0, 3, cellsTo ((pbytes L).take m) (m / 12)⟩)
    (fun j j1 j2 j3 => by
      rw [hlk] at j1
      rw [good_take (by omega) (by omega), good_pbytes h j (by omega)] at j2; cases j2)
    (fun n n1 n2 => by
      have : n = m / 12 := by omega
      subst this; exact ⟨rfl, rfl, rfl⟩)
  rw [hlk] at this
  exact this
theorem Parse_cut' (L : List Ent) (hL : L.length ≤ 1000000) (h : pok 0 L = true) (k : Nat) (hk : k < (pbytes L).length) (h12 : k % 12 ≠ 0) (m : Nat) (hm : m = k) (cs : List AV) (hc : cs = u8s ((pbytes L).take k)) :
    ACall Try.prog 17 [.sl m cs] (.tup [.nilS, .agg [.int .i64 11, .int .i64 (12 * (k / 12) : Nat)]]) none := by
  subst hm; subst hc
  have hl := pbytes_len h
  have hlk : ((pbytes L).take m).length = m := by rw [List.length_take]; omega
  have hgd : ∀ i, i < m / 12 → good ((pbytes L).take m) i = true := fun i hi => by rw [good_take (by omega) (by omega), good_pbytes h i (by omega)]
  have hbd : good ((pbytes L).take m) (m / 12) = false := by
    rw [good, hlk, show decide (12 * (m / 12) + 12 ≤ m) = false from decide_eq_false (by omega)]; rfl
  have := Parse_run ((pbytes L).take m) (by omega) (fun c hc => pbytes_bytes h c (List.mem_of_mem_take hc)) none (.tup [.nilS, .agg [.int .i64 11, .int .i64 (12 * (m / 12) : Nat)]]) none
    (fun j j1 j2 j3 => by
      have : j = m / 12 := by
        rcases Nat.lt_trichotomy j (m / 12) with q | q | q
        · rw [hgd j q] at j2; cases j2
        · exact q
        · rw [j3 _ q] at hbd; cases hbd
      subst this; exact ⟨rfl, rfl, rfl⟩)
    (fun n n1 n2 => by omega)
  rw [hlk] at this
  exact this
set_option maxRecDepth 100000 in
set_option maxHeartbeats 4000000 in
theorem DirCut_c (L : List Ent) (hT : ∀ e ∈ L, e.1.length ≤ 9223372036854775807) (n : Int) (hn : 0 ≤ n ∧ n ≤ 65535) : ACall Try.prog 5 [.sl L.length (lCells L), .int .u16 n] (.bool true) none := by
  have hn0 : IntKind.i64.wrap n = n := wrap_i64 (by omega)
  have hcl := lCells_closed L
  refine acall_intro none Try.func5 rfl (by kernel_rfl) (by simp [Try.f5]) ?_
  by_cases h : L.length ≤ 100
  · have h' : ¬ (100 : Int) < (L.length : Int) := by omega
    by_cases h0 : L.length = 0
    · have h0' : (L.length : Int) = 0 := by omega
      refine ex_run 30 ?_
      simp (maxSteps := 200000) only [Try.f5, h', h0', hcl, push_cast, List.getD_cons_zero, List.getD_cons_succ, List.take_succ_cons, List.take_zero, List.drop_succ_cons, Nat.reduceLT, Nat.reduceLeDiff, Nat.reduceEqDiff, Nat.reduceAdd, Nat.reduceMul, Nat.reduceSub, Int.reduceToNat, Int.reduceLE, Int.reduceLT, Int.reduceEq, Int.reduceAdd, ↓reduceIte, decide_true, decide_false, and_self]
      refine call_intro answers_c (fun h => by cases h) ?_
      simp (maxSteps := 200000) only [push_cast, List.getD_cons_zero, List.getD_cons_succ, List.take_succ_cons, List.take_zero, List.drop_succ_cons, Nat.reduceLT, Nat.reduceLeDiff, Nat.reduceEqDiff, Nat.reduceAdd, Nat.reduceMul, Nat.reduceSub, Int.reduceToNat, Int.reduceLE, Int.reduceLT, Int.reduceEq, Int.reduceAdd, ↓reduceIte, decide_true, decide_false, and_self]
      exact ⟨_, _, rfl, rfl, .refl _, rfl⟩
    · have h0' : ¬ (L.length : Int) = 0 := by omega
      refine ex_run 30 ?_
      simp (maxSteps := 200000) only [Try.f5, h', h0', hcl, push_cast, List.getD_cons_zero, List.getD_cons_succ, List.take_succ_cons, List.take_zero, List.drop_succ_cons, Nat.reduceLT, Nat.reduceLeDiff, Nat.reduceEqDiff, Nat.reduceAdd, Nat.reduceMul, Nat.reduceSub, Int.reduceToNat, Int.reduceLE, Int.reduceLT, Int.reduceEq, Int.reduceAdd, ↓reduceIte, decide_true, decide_false, and_self]
      rcases (by cases pok 0 L <;> simp : pok 0 L = true ∨ pok 0 L = false) with hok | hok
      · refine call_intro (Print_run L (by omega) hT (some 100) _ _ (fun hx => by rw [hok] at hx; cases hx) (fun _ => ⟨rfl, rfl, rfl⟩)) (fun h => by cases h) ?_
        have hpl := pbytes_len hok
        have hp0 : ¬ ((pbytes L).length : Int) = 0 := by omega
        obtain ⟨k, hk⟩ : ∃ k : Nat, n.tmod ((pbytes L).length : Int) = (k : Int) := ⟨(n.tmod ((pbytes L).length : Int)).toNat, by have := Int.tmod_nonneg ((pbytes L).length : Int) hn.1; omega⟩
        have hkl : k < (pbytes L).length := by have := Int.tmod_lt_of_pos n (b := ((pbytes L).length : Int)) (by omega); omega
        have hk1 : (k : Int) ≤ ((pbytes L).length : Int) := by omega
        have hk2 : k ≤ (pbytes L).length := by omega
        have e1 : (k : Int).tmod 12 = (k : Int) % 12 := Int.tmod_eq_emod_of_nonneg (by omega)
        have e2 : (k : Int).tdiv 12 = ((k / 12 : Nat) : Int) := by rw [Int.tdiv_eq_ediv_of_nonneg (by omega)]; omega
        have w1 : IntKind.i64.wrap ((k / 12 : Nat) : Int) = ((k / 12 : Nat) : Int) := wrap_i64 (by omega)
        have w2 : IntKind.i64.wrap (((k / 12 : Nat) : Int) * 12) = ((12 * (k / 12) : Nat) : Int) := by rw [wrap_i64 (by omega)]; omega
        simp (maxSteps := 200000) only [hp0, hn0, hk, hk1, hk2, push_cast, List.getD_cons_zero, List.getD_cons_succ, List.take_succ_cons, List.take_zero, List.drop_succ_cons, Nat.reduceLT, Nat.reduceLeDiff, Nat.reduceEqDiff, Nat.reduceAdd, Nat.reduceMul, Nat.reduceSub, Int.reduceToNat, Int.reduceLE, Int.reduceLT, Int.reduceEq, Int.reduceAdd, ↓reduceIte, decide_true, decide_false, and_self]
        refine ⟨hp0, ?_⟩
        by_cases h12 : k % 12 = 0
        · have z1 : (k : Int) % 12 = 0 := by omega
          refine call_intro (Parse_cut L (by omega) hok k hkl h12 _ rfl _ rfl) (fun _ => ⟨rfl, fun T0 h => by cases h; exact cellsTo_noSl _ _⟩) ?_
          generalize hcells : cellsTo ((pbytes L).take k) (k / 12) = cells
          generalize hk12 : ((k / 12 : Nat) : Int) = q at *
          generalize k / 12 = j at *
          simp (maxSteps := 200000) only [push_cast, List.getD_cons_zero, List.getD_cons_succ, List.take_succ_cons, List.take_zero, List.drop_succ_cons, Nat.reduceLT, Nat.reduceLeDiff, Nat.reduceEqDiff, Nat.reduceAdd, Nat.reduceMul, Nat.reduceSub, Int.reduceToNat, Int.reduceLE, Int.reduceLT, Int.reduceEq, Int.reduceAdd, ↓reduceIte, decide_true, decide_false, and_self]
          refine call_intro answers_c (fun h => by cases h) ?_
          simp (maxSteps := 200000) only [e1, z1, push_cast, List.getD_cons_zero, List.getD_cons_succ, List.take_succ_cons, List.take_zero, List.drop_succ_cons, Nat.reduceLT, Nat.reduceLeDiff, Nat.reduceEqDiff, Nat.reduceAdd, Nat.reduceMul, Nat.reduceSub, Int.reduceToNat, Int.reduceLE, Int.reduceLT, Int.reduceEq, Int.reduceAdd, ↓reduceIte, decide_true, decide_false, and_self]
          refine ⟨by decide, ?_⟩
          simp (maxSteps := 200000) only [e2, w1, hk12, push_cast, List.getD_cons_zero, List.getD_cons_succ, List.take_succ_cons, List.take_zero, List.drop_succ_cons, Nat.reduceLT, Nat.reduceLeDiff, Nat.reduceEqDiff, Nat.reduceAdd, Nat.reduceMul, Nat.reduceSub, Int.reduceToNat, Int.reduceLE, Int.reduceLT, Int.reduceEq, Int.reduceAdd, ↓reduceIte, decide_true, decide_false, and_self]
          refine ⟨by decide, ex_run 3 ?_⟩
          simp (maxSteps := 200000) only [push_cast, List.getD_cons_zero, List.getD_cons_succ, List.take_succ_cons, List.take_zero, List.drop_succ_cons, Nat.reduceLT, Nat.reduceLeDiff, Nat.reduceEqDiff, Nat.reduceAdd, Nat.reduceMul, Nat.reduceSub, Int.reduceToNat, Int.reduceLE, Int.reduceLT, Int.reduceEq, Int.reduceAdd, ↓reduceIte, decide_true, decide_false, and_self]
          exact ⟨_, _, rfl, rfl, .refl _, rfl⟩
        · have z1 : ¬ (k : Int) % 12 = 0 := by omega
          refine call_intro (Parse_cut' L (by omega) hok k hkl h12 _ rfl _ rfl) (fun _ => ⟨rfl, fun T0 h => by cases h⟩) ?_
          generalize ((12 * (k / 12) : Nat) : Int) = f at *
          generalize hk12 : ((k / 12 : Nat) : Int) = q at *
          simp (maxSteps := 200000) only [push_cast, List.getD_cons_zero, List.getD_cons_succ, List.take_succ_cons, List.take_zero, List.drop_succ_cons, Nat.reduceLT, Nat.reduceLeDiff, Nat.reduceEqDiff, Nat.reduceAdd, Nat.reduceMul, Nat.reduceSub, Int.reduceToNat, Int.reduceLE, Int.reduceLT, Int.reduceEq, Int.reduceAdd, ↓reduceIte, decide_true, decide_false, and_self]
          refine call_intro answers_c (fun h => by cases h) ?_
          simp (maxSteps := 200000) only [e1, z1, push_cast, List.getD_cons_zero, List.getD_cons_succ, List.take_succ_cons, List.take_zero, List.drop_succ_cons, Nat.reduceLT, Nat.reduceLeDiff, Nat.reduceEqDiff, Nat.reduceAdd, Nat.reduceMul, Nat.reduceSub, Int.reduceToNat, Int.reduceLE, Int.reduceLT, Int.reduceEq, Int.reduceAdd, ↓reduceIte, decide_true, decide_false, and_self]
          refine ⟨by decide, ?_⟩
          simp (maxSteps := 200000) only [e2, w1, w2, hk12, push_cast, List.getD_cons_zero, List.getD_cons_succ, List.take_succ_cons, List.take_zero, List.drop_succ_cons, Nat.reduceLT, Nat.reduceLeDiff, Nat.reduceEqDiff, Nat.reduceAdd, Nat.reduceMul, Nat.reduceSub, Int.reduceToNat, Int.reduceLE, Int.reduceLT, Int.reduceEq, Int.reduceAdd, ↓reduceIte, decide_true, decide_false, and_self]
          refine ⟨by decide, ?_⟩
          exact ⟨_, _, rfl, rfl, .refl _, rfl⟩
      · refine call_intro (Print_run L (by omega) hT none _ _ (fun _ => ⟨rfl, rfl, rfl⟩) (fun hx => by rw [hok] at hx; cases hx)) (fun h => by cases h) ?_
        simp (maxSteps := 200000) only [push_cast, List.getD_cons_zero, List.getD_cons_succ, List.take_succ_cons, List.take_zero, List.drop_succ_cons, Nat.reduceLT, Nat.reduceLeDiff, Nat.reduceEqDiff, Nat.reduceAdd, Nat.reduceMul, Nat.reduceSub, Int.reduceToNat, Int.reduceLE, Int.reduceLT, Int.reduceEq, Int.reduceAdd, ↓reduceIte, decide_true, decide_false, and_self]
        refine call_intro answers_c (fun h => by cases h) ?_
        simp (maxSteps := 200000) only [push_cast, List.getD_cons_zero, List.getD_cons_succ, List.take_succ_cons, List.take_zero, List.drop_succ_cons, Nat.reduceLT, Nat.reduceLeDiff, Nat.reduceEqDiff, Nat.reduceAdd, Nat.reduceMul, Nat.reduceSub, Int.reduceToNat, Int.reduceLE, Int.reduceLT, Int.reduceEq, Int.reduceAdd, ↓reduceIte, decide_true, decide_false, and_self]
        exact ⟨_, _, rfl, rfl, .refl _, rfl⟩
  · have h' : (100 : Int) < (L.length : Int) := by omega
    refine ex_run 30 ?_
    simp (maxSteps := 200000) only [Try.f5, h', push_cast, List.getD_cons_zero, List.getD_cons_succ, List.take_succ_cons, List.take_zero, List.drop_succ_cons, Nat.reduceLT, Nat.reduceLeDiff, Nat.reduceEqDiff, Nat.reduceAdd, Nat.reduceMul, Nat.reduceSub, Int.reduceToNat, Int.reduceLE, Int.reduceLT, Int.reduceEq, Int.reduceAdd, ↓reduceIte, decide_true, decide_false, and_self]
    refine call_intro answers_c (fun h => by cases h) ?_
    simp (maxSteps := 200000) only [push_cast, List.getD_cons_zero, List.getD_cons_succ, List.take_succ_cons, List.take_zero, List.drop_succ_cons, Nat.reduceLT, Nat.reduceLeDiff, Nat.reduceEqDiff, Nat.reduceAdd, Nat.reduceMul, Nat.reduceSub, Int.reduceToNat, Int.reduceLE, Int.reduceLT, Int.reduceEq, Int.reduceAdd, ↓reduceIte, decide_true, decide_false, and_self]
    exact ⟨_, _, rfl, rfl, .refl _, rfl⟩
theorem opensU16 {H : Type} : Opens Try.prog H 37 fun xs => ∃ n : Int, (IntKind.u16.min ≤ n ∧ n ≤ IntKind.u16.max) ∧ xs = [.int .u16 n] := opens_int Try.underlying37
theorem DirCut_call {a b : AV} (h : ∃ L : List Ent, (∀ e ∈ L, e.1.length ≤ 9223372036854775807) ∧ L.length ≤ maxLen ∧ [a] = [.sl L.length (lCells L)]) (k : ∃ n : Int, (IntKind.u16.min ≤ n ∧ n ≤ IntKind.u16.max) ∧ [b] = [.int .u16 n]) :
    ACall Try.prog 5 [a, b] (.bool true) none := by
  obtain ⟨L, h1, _, e⟩ := h
  cases e
  obtain ⟨n, k1, e⟩ := k
  cases e
  simp [IntKind.min, IntKind.max, IntKind.bits, IntKind.signed] at k1
  exact DirCut_c L h1 n (by omega)
end Go.Proofs.Ytbkmbiccdhnibaa
