/- ref19.Dir -/
import Derived.Test.YtbkmbiccdhnibaaDirH
set_option linter.unusedVariables false
set_option linter.unusedSimpArgs false
namespace Go.Proofs.Ytbkmbiccdhnibaa
open Go Go.Eng
theorem rnum_eq (p : List Int) : rnum p = if (numOf p).2 = true then (numOf p).1 else -1 := by
  unfold rnum numOf
  split <;> simp
theorem good_ref {l : List Int} {i : Nat} (h : 12 * i + 12 ≤ l.length) : good l i = true ↔ goodTag ((blk l i).take 3) = true ∧ 1 ≤ rnum (((blk l i).drop 3).take 4) ∧ rnum (((blk l i).drop 7).take 5) = base l i := by
  have hbs := base_small l i
  rw [rnum_eq, rnum_eq]
  have ho : offOf (blk l i) = (numOf (((blk l i).drop 7).take 5)).1 := rfl
  simp only [good, entryOf, h, decide_true, Bool.true_and, Bool.and_eq_true, decide_eq_true_eq]
  rw [ho]
  obtain ⟨v1, hv1⟩ : ∃ v, (numOf (((blk l i).drop 3).take 4)).1 = v := ⟨_, rfl⟩
  obtain ⟨v2, hv2⟩ : ∃ v, (numOf (((blk l i).drop 7).take 5)).1 = v := ⟨_, rfl⟩
  rw [hv1, hv2]
  by_cases b1 : (numOf (((blk l i).drop 3).take 4)).2 = true <;> by_cases b2 : (numOf (((blk l i).drop 7).take 5)).2 = true <;> simp only [b1, b2, if_true, true_and, false_and, and_false, and_true, Bool.false_eq_true, if_false, false_iff, not_and]
  · constructor
    · rintro ⟨⟨h1, h2⟩, h3⟩; exact ⟨h1, by omega, h3⟩
    · rintro ⟨h1, h2, h3⟩; exact ⟨⟨h1, by omega⟩, h3⟩
  all_goals omega
theorem good_lens {l : List Int} {i : Nat} (h : good l i = true) : rnum (((blk l i).drop 3).take 4) = lenOf (blk l i) ∧ rnum (((blk l i).drop 7).take 5) = offOf (blk l i) := by
  rw [rnum_eq, rnum_eq]
  simp only [good, entryOf, Bool.and_eq_true] at h
  rw [if_pos h.1.2.1.1.1, if_pos h.1.2.1.1.2]
  exact ⟨rfl, rfl⟩
set_option maxRecDepth 100000 in
set_option maxHeartbeats 4000000 in
theorem RDir_run (l : List Int) (hl : l.length ≤ 1099511627776) (hb : ∀ c ∈ l, 0 ≤ c ∧ c < 256) (t0 : Option Nat) (r : AV) (T : Option Tok)
    (hbad : ∀ j, 12 * j < l.length → good l j = false → (∀ i, i < j → good l i = true) → t0 = none ∧ r = .tup [.nilS, .agg [.int .i64 11, .int .i64 (12 * j : Nat)]] ∧ T = none)
    (hgood : ∀ n, l.length = 12 * n → (∀ i, i < n → good l i = true) → t0 = some 100 ∧ r = .tup [.own 0 0 0 n, .agg [.int .i64 0, .int .i64 0]] ∧ T = some ⟨0, 3, cellsTo l n⟩) :
    ACall Try.prog 18 [.sl l.length (u8s l)] r T := by
  refine acall_intro t0 Try.func18 rfl (by kernel_rfl) (by simp [Try.f18]) ?_
  refine ex_run 30 ?_
  simp (maxSteps := 200000) only [push_cast, Try.f18, Nat.reduceLT, Nat.reduceLeDiff, Nat.reduceEqDiff, Nat.reduceAdd, Nat.reduceMul, Nat.reduceSub, Int.reduceToNat, Int.reduceLE, ↓reduceIte]
  refine run_lazy 4 100 3 rfl ?_
  refine run_keep (l' := [(0, .sl l.length (u8s l)), (2, .nilS), (3, .addr 3 1 0), (4, .own 100 5 0 0), (5, .int .i64 0), (6, .int .i64 0)]) (t' := [(3, ⟨1, 1, [.int .i64 0, .int .i64 0]⟩), (100, ⟨5, 3, []⟩)]) (nx' := _) ⟨.refl _, .refl _, .refl _, .refl _, .refl _, .refl _, trivial⟩ ⟨⟨_, rfl, rfl, rfl, SubL.refl _⟩, ⟨_, rfl, rfl, rfl, SubL.refl _⟩, trivial⟩ (Nat.le_refl _) ?_
  refine run_loop (fun n s => ∃ (i g nx : Nat), 12 * i ≤ l.length ∧ n = l.length - 12 * i ∧ (∀ j, j < i → good l j = true) ∧ s = pS l i g nx) _ ⟨0, _, _, Nat.zero_le _, rfl, by omega, rfl⟩ ?_
  rintro n s ⟨i, g, nx, hi, rfl, hall, rfl⟩
  have hbs := base_small l i
  have hls := lenOf_small (blk l i)
  have w1 : IntKind.i64.wrap ((l.length : Int) - 12 * (i : Int)) = (l.length : Int) - 12 * (i : Int) := wrap_i64 (by omega)
  have w2 : IntKind.i64.wrap (12 * (i : Int) + 12) = 12 * (i : Int) + 12 := wrap_i64 (by omega)
  have w3 : IntKind.i64.wrap (base l i + lenOf (blk l i)) = base l (i + 1) := wrap_i64 (by omega)
  have t1 : (12 * (i : Int)).toNat = 12 * i := by omega
  have t2 : (12 * (i : Int) + 12).toNat = 12 * i + 12 := by omega
  have w4 : IntKind.i64.wrap (12 * (i : Int) + 3) = 12 * (i : Int) + 3 := wrap_i64 (by omega)
  have w5 : IntKind.i64.wrap (12 * (i : Int) + 7) = 12 * (i : Int) + 7 := wrap_i64 (by omega)
  have t3 : (12 * (i : Int) + 3).toNat = 12 * i + 3 := by omega
  have t4 : (12 * (i : Int) + 7).toNat = 12 * i + 7 := by omega
  have d1 : List.drop (12 * i) (List.take (12 * i + 3) l) = (blk l i).take 3 := by rw [List.drop_take, blk, List.take_take]; congr 1; omega
  have d2 : List.drop (12 * i + 3) (List.take (12 * i + 7) l) = ((blk l i).drop 3).take 4 := by rw [List.drop_take, blk, List.drop_take, List.drop_drop, List.take_take]; congr 1; omega
  have d3 : List.drop (12 * i + 7) (List.take (12 * i + 12) l) = ((blk l i).drop 7).take 5 := by rw [List.drop_take, blk, List.drop_take, List.drop_drop, List.take_take]; congr 1; omega
  have n3 : u8n ((blk l i).take 3) = (blk l i).take 3 := u8n_eq fun c hc => hb c (List.mem_of_mem_drop (List.mem_of_mem_take (List.mem_of_mem_take hc)))
  have e1 : List.drop (12 * i) (List.take (12 * i + 12) l) = blk l i := by rw [List.drop_take, blk]; congr 1; omega
  unfold pS
  by_cases h : 12 * i < l.length
  · have h' : 12 * (i : Int) < (l.length : Int) := by omega
    by_cases h2 : l.length < 12 * i + 12
    · have h2' : (l.length : Int) < 12 * (i : Int) + 12 := by omega
      refine ex_run 30 ?_
      simp (maxSteps := 200000) only [w1, w2, t1, t2, h', h2', decide_true, push_cast, Nat.reduceLT, Nat.reduceLeDiff, Nat.reduceEqDiff, Nat.reduceAdd, Nat.reduceMul, Nat.reduceSub, Int.reduceToNat, Int.reduceLE, ↓reduceIte]
      have hg0 : good l i = false := by simp [good]; omega
      obtain ⟨rfl, rfl, rfl⟩ := hbad i h hg0 hall
      exact ⟨_, _, rfl, rfl, .of_eq (by rw [show ((12 * i : Nat) : Int) = 12 * (i : Int) by omega]; rfl), rfl⟩
    · have h2' : ¬ (l.length : Int) < 12 * (i : Int) + 12 := by omega
      refine ex_run 30 ?_
      simp (maxSteps := 200000) only [w1, w2, w4, w5, t1, t2, t3, t4, d1, d2, d3, n3, h', h2', e1, decide_true, decide_false, push_cast, Nat.reduceLT, Nat.reduceLeDiff, Nat.reduceEqDiff, Nat.reduceAdd, Nat.reduceMul, Nat.reduceSub, Int.reduceToNat, Int.reduceLE, ↓reduceIte]
      refine ⟨by kernel_rfl, by omega, by simp [blk]; omega, by omega, ?_⟩
      have hbb : ∀ c ∈ blk l i, 0 ≤ c ∧ c < 256 := fun c hc => hb c (List.mem_of_mem_drop (List.mem_of_mem_take hc))
      refine call_introF (rnum_c _ _ (by simp [blk]; omega) (by omega) fun c hc => hbb c (List.mem_of_mem_drop (List.mem_of_mem_take hc))) (fun h => by cases h) ?_
      generalize hr1 : rnum (((blk l i).drop 3).take 4) = v1
      simp (maxSteps := 200000) only [w1, w2, w4, w5, t1, t2, t3, t4, d1, d2, d3, n3, e1, push_cast, Nat.reduceLT, Nat.reduceLeDiff, Nat.reduceEqDiff, Nat.reduceAdd, Nat.reduceMul, Nat.reduceSub, Int.reduceToNat, Int.reduceLE, ↓reduceIte]
      refine ⟨by omega, ?_⟩
      refine call_introF (rnum_c _ _ (by simp [blk]; omega) (by omega) fun c hc => hbb c (List.mem_of_mem_drop (List.mem_of_mem_take hc))) (fun h => by cases h) ?_
      generalize hr2 : rnum (((blk l i).drop 7).take 5) = v2
      simp (maxSteps := 200000) only [w1, w2, w4, w5, t1, t2, t3, t4, d1, d2, d3, n3, e1, push_cast, Nat.reduceLT, Nat.reduceLeDiff, Nat.reduceEqDiff, Nat.reduceAdd, Nat.reduceMul, Nat.reduceSub, Int.reduceToNat, Int.reduceLE, ↓reduceIte]
      refine ⟨by kernel_rfl, ?_⟩
      refine call_intro (RTag_c ((blk l i).take 3) (by simp; omega)) (fun h => by cases h) ?_
      generalize hg : goodTag ((blk l i).take 3) = tg
      cases tg
      all_goals simp (maxSteps := 200000) only [w1, w2, w4, w5, t1, t2, t3, t4, d1, d2, d3, n3, e1, zrep_one, push_cast, List.getD_cons_zero, List.getD_cons_succ, List.take_succ_cons, List.take_zero, List.drop_succ_cons, Nat.reduceLT, Nat.reduceLeDiff, Nat.reduceEqDiff, Nat.reduceAdd, Nat.reduceMul, Nat.reduceSub, Int.reduceToNat, Int.reduceLE, ↓reduceIte]
      · have hg0 : good l i = false := by
          rw [Bool.eq_false_iff]; intro hx; have := (good_ref (by omega)).1 hx; rw [hg] at this; exact absurd this.1 (by simp)
        obtain ⟨rfl, rfl, rfl⟩ := hbad i h hg0 hall
        exact ⟨_, _, rfl, rfl, .of_eq (by rw [show ((12 * i : Nat) : Int) = 12 * (i : Int) by omega]; rfl), rfl⟩
      · refine ⟨fun h3 => ?_, fun h3 => ?_⟩
        · have hg0 : good l i = false := by
            rw [Bool.eq_false_iff]; intro hx; have := (good_ref (by omega)).1 hx; rw [hr1] at this; omega
          obtain ⟨rfl, rfl, rfl⟩ := hbad i h hg0 hall
          exact ⟨_, _, rfl, rfl, .of_eq (by rw [show ((12 * i : Nat) : Int) = 12 * (i : Int) by omega]; rfl), rfl⟩
        · refine ⟨fun h4 => ?_, fun h4 => ?_⟩
          · have hgd : good l i = true := (good_ref (by omega)).2 ⟨hg, by rw [hr1]; omega, by rw [hr2]; exact h4⟩
            obtain ⟨q1, q2⟩ := good_lens hgd
            rw [hr1] at q1
            rw [hr2] at q2
            subst q1
            subst q2
            rw [w3]
            have hall' : ∀ j, j < i + 1 → good l j = true := by
              intro j hj
              by_cases hji : j = i
              · subst hji; exact hgd
              · exact hall j (by omega)
            refine ⟨⟨cellsTo_length l i, by omega, by omega⟩, ?_⟩
            exact run_back_le (le_mk (l' := [(0, .sl l.length (u8s l)), (2, .nilS), (3, .addr 3 1 0), (4, .own 100 (nx + 4 + 5 + 23 + 15 + 5 + 1 + 1 + 1) 0 (i + 1)), (5, .int .i64 (base l (i + 1))), (6, .int .i64 (12 * ((i + 1 : Nat) : Int)))]) (t' := [(3, ⟨1, 1, [.int .i64 0, .int .i64 0]⟩), (100, ⟨nx + 4 + 5 + 23 + 15 + 5 + 1 + 1 + 1, 3, cellsTo l (i + 1)⟩)]) (nx' := _)
              ⟨.refl _, .refl _, .refl _, .refl _, .refl _, .of_eq (congrArg (AV.int .i64) (by omega)), trivial⟩ ⟨⟨_, rfl, rfl, rfl, SubL.refl _⟩, ⟨_, rfl, rfl, rfl, SubL.refl _⟩, trivial⟩ (Nat.le_refl _))
              ⟨l.length - 12 * (i + 1), by omega, i + 1, _, _, by omega, rfl, hall', rfl⟩
          · have hg0 : good l i = false := by
              rw [Bool.eq_false_iff]; intro hx; have := (good_ref (by omega)).1 hx; rw [hr2] at this; exact h4 this.2.2
            obtain ⟨rfl, rfl, rfl⟩ := hbad i h hg0 hall
            exact ⟨_, _, rfl, rfl, .of_eq (by rw [show ((12 * i : Nat) : Int) = 12 * (i : Int) by omega]; rfl), rfl⟩
  · have h' : ¬ 12 * (i : Int) < (l.length : Int) := by omega
    refine ex_run 30 ?_
    simp (maxSteps := 200000) only [w1, w2, t1, t2, h', decide_false, push_cast, Nat.reduceLT, Nat.reduceLeDiff, Nat.reduceEqDiff, Nat.reduceAdd, Nat.reduceMul, Nat.reduceSub, Int.reduceToNat, Int.reduceLE, ↓reduceIte]
    have hn : l.length = 12 * i := by omega
    obtain ⟨rfl, rfl, rfl⟩ := hgood i hn hall
    exact ⟨_, [.own 0 0 0 i, .agg [.int .i64 0, .int .i64 0]], rfl, by simp [outA, outV, outC, mkS_env, mkS_tk, lkF, lkG, AV.closed]; rfl, .refl _, ⟨_, rfl, cellsTo_closed l i, rfl⟩⟩
end Go.Proofs.Ytbkmbiccdhnibaa
