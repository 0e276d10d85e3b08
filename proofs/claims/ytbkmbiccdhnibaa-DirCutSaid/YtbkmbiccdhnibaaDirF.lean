/- dir.Parse -/
import Derived.Test.YtbkmbiccdhnibaaDirB
set_option linter.unusedVariables false
set_option linter.unusedSimpArgs false
namespace Go.Proofs.Ytbkmbiccdhnibaa
open Go Go.Eng
theorem zrep_one (z : List AV) : zrep z 1 = z := by
  unfold zrep
  apply List.ext_getElem
  · simp
  · intro i h1 h2
    simp [Nat.mod_eq_of_lt h2, List.getElem?_eq_getElem h2]
theorem entry_n (b : List Int) (n : Nat) (hn : n = 12) (hbl : b.length = 12) (hb : ∀ c ∈ b, 0 ≤ c ∧ c < 256) : ACall Try.prog 42 [.sl n (u8s b)] (.tup [.agg [.str (b.take 3), .int .i64 (lenOf b), .int .i64 (offOf b)], .bool (entryOf b).2]) none := by
  subst hn
  have := entry_c b hbl hb
  rw [hbl] at this
  exact this
def pS (l : List Int) (i g nx : Nat) : AS := mkS [(0, .sl l.length (u8s l)), (2, .nilS), (3, .addr 3 1 0), (4, .own 100 g 0 i), (5, .int .i64 (base l i)), (6, .int .i64 (12 * (i : Int)))] [(3, ⟨1, 1, [.int .i64 0, .int .i64 0]⟩), (100, ⟨g, 3, cellsTo l i⟩)] nx
set_option maxRecDepth 100000 in
set_option maxHeartbeats 4000000 in
theorem Parse_run (l : List Int) (hl : l.length ≤ 1099511627776) (hb : ∀ c ∈ l, 0 ≤ c ∧ c < 256) (t0 : Option Nat) (r : AV) (T : Option Tok)
    (hbad : ∀ j, 12 * j < l.length → good l j = false → (∀ i, i < j → good l i = true) → t0 = none ∧ r = .tup [.nilS, .agg [.int .i64 11, .int .i64 (12 * j : Nat)]] ∧ T = none)
    (hgood : ∀ n, l.length = 12 * n → (∀ i, i < n → good l i = true) → t0 = some 100 ∧ r = .tup [.own 0 0 0 n, .agg [.int .i64 0, .int .i64 0]] ∧ T = some ⟨0, 3, cellsTo l n⟩) :
    ACall Try.prog 17 [.sl l.length (u8s l)] r T := by
  refine acall_intro t0 Try.func17 rfl (by kernel_rfl) (by simp [Try.f17]) ?_
  refine ex_run 30 ?_
  simp (maxSteps := 200000) only [push_cast, Try.f17, Nat.reduceLT, Nat.reduceLeDiff, Nat.reduceEqDiff, Nat.reduceAdd, Nat.reduceMul, Nat.reduceSub, Int.reduceToNat, Int.reduceLE, ↓reduceIte]
  refine run_lazy 4 100 3 rfl ?_
  refine run_keep (l' := [(0, .sl l.length (u8s l)), (2, .nilS), (3, .addr 3 1 0), (4, .own 100 5 0 0), (5, .int .i64 0), (6, .int .i64 0)]) (t' := [(3, ⟨1, 1, [.int .i64 0, .int .i64 0]⟩), (100, ⟨5, 3, []⟩)]) (nx' := _) ⟨.refl _, .refl _, .refl _, .refl _, .refl _, .refl _, trivial⟩ ⟨⟨_, rfl, rfl, rfl, SubL.refl _⟩, ⟨_, rfl, rfl, rfl, SubL.refl _⟩, trivial⟩ (Nat.le_refl _) ?_
  refine run_loop (fun n s => ∃ (i g nx : Nat), 12 * i ≤ l.length ∧ n = l.length - 12 * i ∧ (∀ j, j < i → good l j = true) ∧ s = pS l i g nx) _ ⟨0, _, _, Nat.zero_le _, rfl, by omega, rfl⟩ ?_
  rintro n s ⟨i, g, nx, hi, rfl, hall, rfl⟩
  have hbs := base_small l i
  have hls := lenOf_small (blk l i)
  have w1 : IntKind.i64.wrap ((l.length : Int) - 12 * (i : Int)) = (l.length : Int) - 12 * (i : Int) := wrap_i64 (by omega)
  have w2 : IntKind.i64.wrap (12 * (i : Int) + 12) = 12 * (i : Int) + 12 := wrap_i64 (by omega)
  have w3 : IntKind.i64.wrap (base l i + lenOf (blk l i)) = base l (i + 1) := wrap_i64 (by omega)
  have t1 : (12 * (i : Int)).toNat = 12 * i := by omega
  have t2 : (12 * (i : Int) + 12).toNat = 12 * i + 12 := by omega
  have e1 : List.drop (12 * i) (List.take (12 * i + 12) l) = blk l i := by rw [List.drop_take, blk]; congr 1; omega
  unfold pS
  by_cases h : 12 * i < l.length
  · have h' : 12 * (i : Int) < (l.length : Int) := by omega
    by_cases h2 : l.length < 12 * i + 12
    · have h2' : (l.length : Int) - 12 * (i : Int) < 12 := by omega
      refine ex_run 30 ?_
      simp (maxSteps := 200000) only [w1, w2, t1, t2, h', h2', decide_true, push_cast, Nat.reduceLT, Nat.reduceLeDiff, Nat.reduceEqDiff, Nat.reduceAdd, Nat.reduceMul, Nat.reduceSub, Int.reduceToNat, Int.reduceLE, ↓reduceIte]
      have hg0 : good l i = false := by simp [good]; omega
      obtain ⟨rfl, rfl, rfl⟩ := hbad i h hg0 hall
      exact ⟨_, _, rfl, rfl, .of_eq (by rw [show ((12 * i : Nat) : Int) = 12 * (i : Int) by omega]; rfl), rfl⟩
    · have h2' : ¬ (l.length : Int) - 12 * (i : Int) < 12 := by omega
      refine ex_run 30 ?_
      simp (maxSteps := 200000) only [w1, w2, t1, t2, h', h2', e1, decide_true, decide_false, push_cast, Nat.reduceLT, Nat.reduceLeDiff, Nat.reduceEqDiff, Nat.reduceAdd, Nat.reduceMul, Nat.reduceSub, Int.reduceToNat, Int.reduceLE, ↓reduceIte]
      refine ⟨by omega, ?_⟩
      refine call_intro (entry_n (blk l i) _ (by omega) (by simp [blk]; omega) fun c hc => hb c (List.mem_of_mem_drop (List.mem_of_mem_take hc))) (fun h => by cases h) ?_
      generalize hok : (entryOf (blk l i)).2 = ok
      cases ok
      all_goals simp (maxSteps := 200000) only [push_cast, List.getD_cons_zero, List.getD_cons_succ, List.take_succ_cons, List.take_zero, List.drop_succ_cons, Nat.reduceLT, Nat.reduceLeDiff, Nat.reduceEqDiff, Nat.reduceAdd, Nat.reduceMul, Nat.reduceSub, Int.reduceToNat, Int.reduceLE, ↓reduceIte, w1, w2, w3, zrep_one]
      · have hg0 : good l i = false := by simp [good, hok]
        obtain ⟨rfl, rfl, rfl⟩ := hbad i h hg0 hall
        exact ⟨_, _, rfl, rfl, .of_eq (by rw [show ((12 * i : Nat) : Int) = 12 * (i : Int) by omega]; rfl), rfl⟩
      · refine ⟨fun h3 => ?_, fun h3 => ?_⟩
        · have hall' : ∀ j, j < i + 1 → good l j = true := by
            intro j hj
            by_cases hji : j = i
            · subst hji; simp [good, hok, h3]; omega
            · exact hall j (by omega)
          refine ⟨⟨cellsTo_length l i, by omega, by omega⟩, ?_⟩
          exact run_back_le (le_mk (l' := [(0, .sl l.length (u8s l)), (2, .nilS), (3, .addr 3 1 0), (4, .own 100 (nx + 4 + 5 + 12 + 8 + 5 + 1 + 1 + 1) 0 (i + 1)), (5, .int .i64 (base l (i + 1))), (6, .int .i64 (12 * ((i + 1 : Nat) : Int)))]) (t' := [(3, ⟨1, 1, [.int .i64 0, .int .i64 0]⟩), (100, ⟨nx + 4 + 5 + 12 + 8 + 5 + 1 + 1 + 1, 3, cellsTo l (i + 1)⟩)]) (nx' := _)
            ⟨.refl _, .refl _, .refl _, .refl _, .refl _, .of_eq (congrArg (AV.int .i64) (by omega)), trivial⟩ ⟨⟨_, rfl, rfl, rfl, SubL.refl _⟩, ⟨_, rfl, rfl, rfl, SubL.refl _⟩, trivial⟩ (Nat.le_refl _))
            ⟨l.length - 12 * (i + 1), by omega, i + 1, _, _, by omega, rfl, hall', rfl⟩
        · have hg0 : good l i = false := by simp [good, hok, h3]
          obtain ⟨rfl, rfl, rfl⟩ := hbad i h hg0 hall
          exact ⟨_, _, rfl, rfl, .of_eq (by rw [show ((12 * i : Nat) : Int) = 12 * (i : Int) by omega]; rfl), rfl⟩
  · have h' : ¬ 12 * (i : Int) < (l.length : Int) := by omega
    refine ex_run 30 ?_
    simp (maxSteps := 200000) only [w1, w2, t1, t2, h', decide_false, push_cast, Nat.reduceLT, Nat.reduceLeDiff, Nat.reduceEqDiff, Nat.reduceAdd, Nat.reduceMul, Nat.reduceSub, Int.reduceToNat, Int.reduceLE, ↓reduceIte]
    have hn : l.length = 12 * i := by omega
    obtain ⟨rfl, rfl, rfl⟩ := hgood i hn hall
    exact ⟨_, [.own 0 0 0 i, .agg [.int .i64 0, .int .i64 0]], rfl, by simp [outA, outV, outC, mkS_env, mkS_tk, lkF, lkG, AV.closed]; rfl, .refl _, ⟨_, rfl, cellsTo_closed l i, rfl⟩⟩
end Go.Proofs.Ytbkmbiccdhnibaa
