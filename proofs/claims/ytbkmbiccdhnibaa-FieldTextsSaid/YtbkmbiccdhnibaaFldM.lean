/- The law FieldCut: at every argument it returns true. -/
import Derived.Test.YtbkmbiccdhnibaaFldL
set_option linter.unusedVariables false
set_option linter.unusedSimpArgs false
namespace Go.Proofs.Ytbkmbiccdhnibaa
open Go Go.Eng
theorem FParse_n (tag b : List Int) (n : Nat) (hn : b.length = n) (ht : tag.length ≤ 9223372036854775807) (hl : n ≤ 1099511627776) : ACall Try.prog 26 [.str tag, .sl n (u8s b)] (fres (fparse tag b)) none := by
  subst hn; exact FParse_c tag b ht hl
theorem same_n (a b : List Int) (n m : Nat) (ha : a.length = n) (hb : b.length = m) (hl : n ≤ 9223372036854775807) : ACall Try.prog 27 [.sl n (u8s a), .sl m (u8s b)] (.bool (a == b)) none := by
  subst ha; subst hb; exact same_c a b hl
set_option maxRecDepth 100000 in
set_option maxHeartbeats 8000000 in
theorem FieldCut_c (f : FV) (h1 : f.tag.length ≤ 140737488351232) (h2 : f.text.length ≤ 140737488351232) (h3 : ∀ s ∈ f.subs, s.2.length ≤ 140737488351232) (h4 : f.subs.length ≤ 140737488351232) (n : Int) (hn : 0 ≤ n ∧ n ≤ 65535) :
    ACall Try.prog 6 [.agg (fCells f), .int .u16 n] (.bool true) none := by
  have hn0 : IntKind.i64.wrap n = n := wrap_i64 (by omega)
  have hcl : closedL (subCells f.subs) = true := subCells_closed _
  refine acall_intro none Try.func6 rfl (by kernel_rfl) (by simp [Try.f6]) ?_
  refine ex_run 30 ?_
  simp (maxSteps := 200000) only [Try.f6, fCells, hcl, push_cast, List.getD_cons_zero, List.getD_cons_succ, List.take_succ_cons, List.take_zero, List.drop_succ_cons, Nat.reduceLT, Nat.reduceLeDiff, Nat.reduceEqDiff, Nat.reduceAdd, Nat.reduceMul, Nat.reduceSub, Int.reduceToNat, Int.reduceLE, Int.reduceLT, Int.reduceEq, Int.reduceAdd, ↓reduceIte, decide_true, decide_false, and_self]
  refine call_intro (small_c f h1 h2 h3 h4) (fun h => by cases h) ?_
  by_cases hsm : tot f < 20000
  · rw [decide_eq_true hsm]
    have hfb := fbytes_tot f
    simp (maxSteps := 200000) only [fCells, hcl, push_cast, List.getD_cons_zero, List.getD_cons_succ, List.take_succ_cons, List.take_zero, List.drop_succ_cons, Nat.reduceLT, Nat.reduceLeDiff, Nat.reduceEqDiff, Nat.reduceAdd, Nat.reduceMul, Nat.reduceSub, Int.reduceToNat, Int.reduceLE, Int.reduceLT, Int.reduceEq, Int.reduceAdd, ↓reduceIte, decide_true, decide_false, and_self]
    refine call_intro (good_c f (by omega) (by omega) (fun s hs => by have := h3 s hs; omega) (by omega) (by omega)) (fun h => by cases h) ?_
    cases hgd : goodF f with
    | false =>
      simp (maxSteps := 200000) only [fCells, hcl, push_cast, List.getD_cons_zero, List.getD_cons_succ, List.take_succ_cons, List.take_zero, List.drop_succ_cons, Nat.reduceLT, Nat.reduceLeDiff, Nat.reduceEqDiff, Nat.reduceAdd, Nat.reduceMul, Nat.reduceSub, Int.reduceToNat, Int.reduceLE, Int.reduceLT, Int.reduceEq, Int.reduceAdd, ↓reduceIte, decide_true, decide_false, and_self]
      refine call_intro answers21_c (fun h => by cases h) ?_
      simp (maxSteps := 200000) only [push_cast, List.getD_cons_zero, List.getD_cons_succ, List.take_succ_cons, List.take_zero, List.drop_succ_cons, Nat.reduceLT, Nat.reduceLeDiff, Nat.reduceEqDiff, Nat.reduceAdd, Nat.reduceMul, Nat.reduceSub, Int.reduceToNat, Int.reduceLE, Int.reduceLT, Int.reduceEq, Int.reduceAdd, ↓reduceIte, decide_true, decide_false, and_self]
      exact ⟨_, _, rfl, rfl, .refl _, rfl⟩
    | true =>
      simp (maxSteps := 200000) only [fCells, hcl, push_cast, List.getD_cons_zero, List.getD_cons_succ, List.take_succ_cons, List.take_zero, List.drop_succ_cons, Nat.reduceLT, Nat.reduceLeDiff, Nat.reduceEqDiff, Nat.reduceAdd, Nat.reduceMul, Nat.reduceSub, Int.reduceToNat, Int.reduceLE, Int.reduceLT, Int.reduceEq, Int.reduceAdd, ↓reduceIte, decide_true, decide_false, and_self]
      refine call_intro (RControl_c f.tag (by omega)) (fun h => by cases h) ?_
      cases hc : List.isPrefixOf [48, 48] f.tag with
      | true =>
        simp (maxSteps := 200000) only [fCells, hcl, push_cast, List.getD_cons_zero, List.getD_cons_succ, List.take_succ_cons, List.take_zero, List.drop_succ_cons, Nat.reduceLT, Nat.reduceLeDiff, Nat.reduceEqDiff, Nat.reduceAdd, Nat.reduceMul, Nat.reduceSub, Int.reduceToNat, Int.reduceLE, Int.reduceLT, Int.reduceEq, Int.reduceAdd, ↓reduceIte, decide_true, decide_false, and_self]
        refine call_intro answers21_c (fun h => by cases h) ?_
        simp (maxSteps := 200000) only [push_cast, List.getD_cons_zero, List.getD_cons_succ, List.take_succ_cons, List.take_zero, List.drop_succ_cons, Nat.reduceLT, Nat.reduceLeDiff, Nat.reduceEqDiff, Nat.reduceAdd, Nat.reduceMul, Nat.reduceSub, Int.reduceToNat, Int.reduceLE, Int.reduceLT, Int.reduceEq, Int.reduceAdd, ↓reduceIte, decide_true, decide_false, and_self]
        exact ⟨_, _, rfl, rfl, .refl _, rfl⟩
      | false =>
        have hcut := fun k hk => cut_field hgd hc k hk
        have hblen : 0 < (fbytes f).length := by rw [(cut_parts hgd hc).bytes]; simp
        simp (maxSteps := 200000) only [fCells, hcl, push_cast, List.getD_cons_zero, List.getD_cons_succ, List.take_succ_cons, List.take_zero, List.drop_succ_cons, Nat.reduceLT, Nat.reduceLeDiff, Nat.reduceEqDiff, Nat.reduceAdd, Nat.reduceMul, Nat.reduceSub, Int.reduceToNat, Int.reduceLE, Int.reduceLT, Int.reduceEq, Int.reduceAdd, ↓reduceIte, decide_true, decide_false, and_self]
        refine call_intro (rbytes_s f (by omega) (by omega)) (fun h => by cases h) ?_
        generalize hb : fbytes f = b at *
        have hp0 : ¬ (b.length : Int) = 0 := by omega
        obtain ⟨k, hk⟩ : ∃ k : Nat, n.tmod (b.length : Int) = (k : Int) := ⟨(n.tmod (b.length : Int)).toNat, by have := Int.tmod_nonneg (b.length : Int) hn.1; omega⟩
        have hkl : k < b.length := by have := Int.tmod_lt_of_pos n (b := (b.length : Int)) (by omega); omega
        have hk1 : (k : Int) ≤ (b.length : Int) := by omega
        have hk2 : k ≤ b.length := by omega
        have hml : (b.take k).length = k := by rw [List.length_take]; omega
        obtain ⟨hmy, hmn⟩ := hcut k hkl
        simp (maxSteps := 200000) only [hn0, hk, hk1, hk2, push_cast, List.getD_cons_zero, List.getD_cons_succ, List.take_succ_cons, List.take_zero, List.drop_succ_cons, Nat.reduceLT, Nat.reduceLeDiff, Nat.reduceEqDiff, Nat.reduceAdd, Nat.reduceMul, Nat.reduceSub, Int.reduceToNat, Int.reduceLE, Int.reduceLT, Int.reduceEq, Int.reduceAdd, ↓reduceIte, decide_true, decide_false, and_self]
        refine ⟨hp0, by kernel_rfl, ?_⟩
        refine call_introF (FParse_n f.tag (b.take k) k hml (by omega) (by omega)) (fun h => by cases h) ?_
        cases hm : mayB b k with
        | true =>
          obtain ⟨x, q1, q2, q3⟩ := hmy hm
          rw [q1]
          have hcx : closedL (subCells x.subs) = true := subCells_closed _
          simp only [mayB, Bool.and_eq_true, decide_eq_true_eq] at hm
          obtain ⟨m1, m2⟩ := hm
          have hk4 : (4 : Int) ≤ (k : Int) := by omega
          have wk : IntKind.i64.wrap ((k : Int) - 1) = (k : Int) - 1 := wrap_i64 (by omega)
          have tk : ((k : Int) - 1).toNat = k - 1 := by omega
          have pk1 : (0 : Int) ≤ (k : Int) - 1 := by omega
          have pk2 : (k : Int) - 1 < (b.length : Int) := by omega
          have pk3 : k - 1 < b.length := by omega
          have gk := u8s_getD b (k - 1) (by omega)
          simp (maxSteps := 200000) only [fres, fCells, hcx, hk4, m2, wk, tk, pk1, pk2, pk3, gk, hblen, hk1, hk2, push_cast, List.getD_cons_zero, List.getD_cons_succ, List.take_succ_cons, List.take_zero, List.drop_succ_cons, Nat.reduceLT, Nat.reduceLeDiff, Nat.reduceEqDiff, Nat.reduceAdd, Nat.reduceMul, Nat.reduceSub, Int.reduceToNat, Int.reduceLE, Int.reduceLT, Int.reduceEq, Int.reduceAdd, ↓reduceIte, decide_true, decide_false, and_self]
          refine ⟨okTr_of (by kernel_rfl), by kernel_rfl, ?_⟩
          refine call_introF answers21_c (fun h => by cases h) ?_
          simp (maxSteps := 200000) only [hcx, wk, tk, pk1, pk2, pk3, gk, hblen, hk1, hk2, push_cast, List.getD_cons_zero, List.getD_cons_succ, List.take_succ_cons, List.take_zero, List.drop_succ_cons, Nat.reduceLT, Nat.reduceLeDiff, Nat.reduceEqDiff, Nat.reduceAdd, Nat.reduceMul, Nat.reduceSub, Int.reduceToNat, Int.reduceLE, Int.reduceLT, Int.reduceEq, Int.reduceAdd, ↓reduceIte, decide_true, decide_false, and_self]
          refine call_introF (rbytes_s x (by rw [q3]; omega) (by rw [q2, hml]; omega)) (fun h => by cases h) ?_
          rw [q2, hml]
          simp (maxSteps := 200000) only [hcx, wk, tk, pk1, pk2, pk3, gk, hblen, hk1, hk2, push_cast, List.getD_cons_zero, List.getD_cons_succ, List.take_succ_cons, List.take_zero, List.drop_succ_cons, Nat.reduceLT, Nat.reduceLeDiff, Nat.reduceEqDiff, Nat.reduceAdd, Nat.reduceMul, Nat.reduceSub, Int.reduceToNat, Int.reduceLE, Int.reduceLT, Int.reduceEq, Int.reduceAdd, ↓reduceIte, decide_true, decide_false, and_self]
          refine call_introF (same_n (b.take k) (b.take k) k k hml hml (by omega)) (fun h => by cases h) ?_
          rw [beq_self_eq_true]
          simp (maxSteps := 200000) only [hcx, wk, tk, pk1, pk2, pk3, gk, hblen, hk1, hk2, push_cast, List.getD_cons_zero, List.getD_cons_succ, List.take_succ_cons, List.take_zero, List.drop_succ_cons, Nat.reduceLT, Nat.reduceLeDiff, Nat.reduceEqDiff, Nat.reduceAdd, Nat.reduceMul, Nat.reduceSub, Int.reduceToNat, Int.reduceLE, Int.reduceLT, Int.reduceEq, Int.reduceAdd, ↓reduceIte, decide_true, decide_false, and_self]
          refine ⟨okTr_of (by kernel_rfl), ?_⟩
          exact ⟨_, _, rfl, rfl, .refl _, rfl⟩
        | false =>
          rw [hmn hm]
          by_cases m1 : 4 ≤ k
          · have hk4 : (4 : Int) ≤ (k : Int) := by omega
            have m2 : b.getD (k - 1) 0 = 31 := by
              simp only [mayB, Bool.and_eq_false_iff, decide_eq_false_iff_not] at hm
              exact Classical.byContradiction fun hx => hm.elim (fun h => h m1) (fun h => h hx)
            have wk : IntKind.i64.wrap ((k : Int) - 1) = (k : Int) - 1 := wrap_i64 (by omega)
            have tk : ((k : Int) - 1).toNat = k - 1 := by omega
            have pk1 : (0 : Int) ≤ (k : Int) - 1 := by omega
            have pk2 : (k : Int) - 1 < (b.length : Int) := by omega
            have pk3 : k - 1 < b.length := by omega
            have gk := u8s_getD b (k - 1) (by omega)
            simp (maxSteps := 200000) only [fres, fCells, zeroF, subCells_nil, u8s_nil, hk4, m2, wk, tk, pk1, pk2, pk3, gk, hblen, hk1, hk2, push_cast, List.getD_cons_zero, List.getD_cons_succ, List.take_succ_cons, List.take_zero, List.drop_succ_cons, Nat.reduceLT, Nat.reduceLeDiff, Nat.reduceEqDiff, Nat.reduceAdd, Nat.reduceMul, Nat.reduceSub, Int.reduceToNat, Int.reduceLE, Int.reduceLT, Int.reduceEq, Int.reduceAdd, ↓reduceIte, decide_true, decide_false, and_self]
            refine ⟨okTr_of (by kernel_rfl), by kernel_rfl, ?_⟩
            refine call_introF answers21_c (fun h => by cases h) ?_
            simp (maxSteps := 200000) only [wk, tk, pk1, pk2, pk3, gk, hblen, hk1, hk2, push_cast, List.getD_cons_zero, List.getD_cons_succ, List.take_succ_cons, List.take_zero, List.drop_succ_cons, Nat.reduceLT, Nat.reduceLeDiff, Nat.reduceEqDiff, Nat.reduceAdd, Nat.reduceMul, Nat.reduceSub, Int.reduceToNat, Int.reduceLE, Int.reduceLT, Int.reduceEq, Int.reduceAdd, ↓reduceIte, decide_true, decide_false, and_self]
            refine ⟨okTr_of (by kernel_rfl), ?_⟩
            exact ⟨_, _, rfl, rfl, .refl _, rfl⟩
          · have hk4 : ¬ (4 : Int) ≤ (k : Int) := by omega
            simp (maxSteps := 200000) only [fres, fCells, zeroF, subCells_nil, u8s_nil, hk4, push_cast, List.getD_cons_zero, List.getD_cons_succ, List.take_succ_cons, List.take_zero, List.drop_succ_cons, Nat.reduceLT, Nat.reduceLeDiff, Nat.reduceEqDiff, Nat.reduceAdd, Nat.reduceMul, Nat.reduceSub, Int.reduceToNat, Int.reduceLE, Int.reduceLT, Int.reduceEq, Int.reduceAdd, ↓reduceIte, decide_true, decide_false, and_self]
            refine ⟨okTr_of (by kernel_rfl), by kernel_rfl, ?_⟩
            refine call_introF answers21_c (fun h => by cases h) ?_
            simp (maxSteps := 200000) only [hk4, push_cast, List.getD_cons_zero, List.getD_cons_succ, List.take_succ_cons, List.take_zero, List.drop_succ_cons, Nat.reduceLT, Nat.reduceLeDiff, Nat.reduceEqDiff, Nat.reduceAdd, Nat.reduceMul, Nat.reduceSub, Int.reduceToNat, Int.reduceLE, Int.reduceLT, Int.reduceEq, Int.reduceAdd, ↓reduceIte, decide_true, decide_false, and_self]
            refine ⟨okTr_of (by kernel_rfl), ?_⟩
            exact ⟨_, _, rfl, rfl, .refl _, rfl⟩
  · rw [decide_eq_false hsm]
    simp (maxSteps := 200000) only [push_cast, List.getD_cons_zero, List.getD_cons_succ, List.take_succ_cons, List.take_zero, List.drop_succ_cons, Nat.reduceLT, Nat.reduceLeDiff, Nat.reduceEqDiff, Nat.reduceAdd, Nat.reduceMul, Nat.reduceSub, Int.reduceToNat, Int.reduceLE, Int.reduceLT, Int.reduceEq, Int.reduceAdd, ↓reduceIte, decide_true, decide_false, and_self]
    refine call_intro answers21_c (fun h => by cases h) ?_
    simp (maxSteps := 200000) only [push_cast, List.getD_cons_zero, List.getD_cons_succ, List.take_succ_cons, List.take_zero, List.drop_succ_cons, Nat.reduceLT, Nat.reduceLeDiff, Nat.reduceEqDiff, Nat.reduceAdd, Nat.reduceMul, Nat.reduceSub, Int.reduceToNat, Int.reduceLE, Int.reduceLT, Int.reduceEq, Int.reduceAdd, ↓reduceIte, decide_true, decide_false, and_self]
    exact ⟨_, _, rfl, rfl, .refl _, rfl⟩
end Go.Proofs.Ytbkmbiccdhnibaa
