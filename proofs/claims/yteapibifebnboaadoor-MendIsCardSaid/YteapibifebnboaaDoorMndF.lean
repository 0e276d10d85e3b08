/- bytes.Split at one byte. -/
import Derived.Test.YteapibifebnboaaDoorMndE
import Derived.Test.YteapibifebnboaaDoorGFe
set_option linter.unusedVariables false
set_option linter.unusedSimpArgs false
namespace Go.Proofs.YteapibifebnboaaDoor
open Go Go.Eng
/-- The row of a split: what is found so far, the rest nil. -/
def splCells (D : List (List Int)) (k : Nat) : List AV := txCells D ++ List.replicate k .nilS
theorem splCells_len (D : List (List Int)) (k : Nat) : (splCells D k).length = D.length + k := by unfold splCells; rw [List.length_append, txCells_length, List.length_replicate]
theorem splCells_set (D : List (List Int)) (k : Nat) (t : List Int) : (splCells D (k + 1)).set D.length (.sl t.length (u8s t)) = splCells (D ++ [t]) k := by
  unfold splCells
  rw [List.set_append_right _ _ (by rw [txCells_length]; exact Nat.le_refl _), txCells_length, Nat.sub_self, List.replicate_succ, List.set_cons_zero]
  unfold txCells
  rw [List.map_append, List.append_assoc]; rfl
theorem inB_drop {l : List Int} (h : inB l) (n : Nat) : inB (l.drop n) := fun c hc => h c (List.mem_of_mem_drop hc)
theorem inB_take {l : List Int} (h : inB l) (n : Nat) : inB (l.take n) := fun c hc => h c (List.mem_of_mem_take hc)
theorem zrep_nil (n : Nat) : zrep [.nilS] n = List.replicate n .nilS := by
  apply List.ext_getElem
  · simp [zrep]
  · intro i h1 h2
    simp [zrep]
    rw [show i % 1 = 0 by omega]; rfl
set_option maxRecDepth 100000 in
set_option maxHeartbeats 4000000 in
theorem genSplit_c (l : List Int) (c : Int) (hl : inB l) (hn : l.length ≤ 1099511627776) (hc : 0 ≤ c ∧ c < 256) :
    ACall Tryd.prog 64 [.sl l.length (u8s l), .sl 1 [.int .u8 c], .int .i64 0, .int .i64 (-1)] (.own 0 0 0 (splitL c l).length) (some ⟨0, 1, txCells (splitL c l)⟩) := by
  have hcl : l.count c ≤ l.length := List.count_le_length
  have hsl := splitL_len c l
  have w1 : IntKind.i64.wrap ((l.count c : Int) + 1) = (l.count c : Int) + 1 := wrap_i64 (by omega)
  have w2 : IntKind.i64.wrap ((l.length : Int) + 1) = (l.length : Int) + 1 := wrap_i64 (by omega)
  have m1 : (if (l.length : Int) + 1 < (l.count c : Int) + 1 then (l.length : Int) + 1 else (l.count c : Int) + 1) = ((l.count c : Int) + 1) := if_neg (by omega)
  have t1 : ((l.count c : Int) + 1).toNat = l.count c + 1 := by omega
  have w3 : IntKind.i64.wrap ((l.count c : Int) + 1 - 1) = (l.count c : Int) := by rw [wrap_i64 (by omega)]; omega
  refine acall_intro (some 32) Tryd.func64 rfl (by kernel_rfl) (by simp [Tryd.f64]) ?_
  refine ex_run 60 ?_
  simp (maxSteps := 200000) only [Tryd.f64, push_cast, List.getD_cons_zero, List.getD_cons_succ, List.take_succ_cons, List.take_zero, List.drop_succ_cons, Nat.reduceLT, Nat.reduceLeDiff, Nat.reduceEqDiff, Nat.reduceAdd, Nat.reduceMul, Nat.reduceSub, Int.reduceToNat, Int.reduceLE, Int.reduceLT, Int.reduceEq, Int.reduceAdd, ↓reduceIte, decide_true, decide_false, and_self]
  refine call_intro (Count1_c l c hl hc) (fun h => by cases h) ?_
  generalize hN : l.count c = N at *
  simp (maxSteps := 200000) only [w1, w2, m1, t1, w3, push_cast, List.getD_cons_zero, List.getD_cons_succ, List.take_succ_cons, List.take_zero, List.drop_succ_cons, Nat.reduceLT, Nat.reduceLeDiff, Nat.reduceEqDiff, Nat.reduceAdd, Nat.reduceMul, Nat.reduceSub, Int.reduceToNat, Int.reduceLE, Int.reduceLT, Int.reduceEq, Int.reduceAdd, ↓reduceIte, decide_true, decide_false, and_self]
  refine ⟨by omega, ?_⟩
  rw [zrep_nil]
  refine run_keep (l' := [(0, .sl l.length (u8s l)), (1, .sl 1 [.int .u8 c]), (2, .int .i64 0), (3, .int .i64 N), (9, .own 32 20 0 (N + 1)), (10, .int .i64 0)]) (t' := [(32, ⟨20, 1, splCells [] (N + 1)⟩)]) (nx' := _) ⟨.refl _, .refl _, .refl _, .refl _, .refl _, .refl _, trivial⟩ ⟨⟨_, rfl, rfl, rfl, SubL.refl _⟩, trivial⟩ (Nat.le_refl _) ?_
  refine run_loop (fun n s => ∃ (D : List (List Int)) (r : List Int) (nx : Nat), splitL c l = D ++ splitL c r ∧ inB r ∧ r.length ≤ l.length ∧ D.length + r.count c = N ∧ n = N - D.length ∧ s = mkS [(0, .sl r.length (u8s r)), (1, .sl 1 [.int .u8 c]), (2, .int .i64 0), (3, .int .i64 N), (9, .own 32 20 0 (N + 1)), (10, .int .i64 D.length)] [(32, ⟨20, 1, splCells D (N + 1 - D.length)⟩)] nx) _ ⟨[], l, _, rfl, hl, Nat.le_refl _, by rw [hN]; exact Nat.zero_add _, rfl, rfl⟩ ?_
  rintro n s ⟨D, r, nx, hD, hr, hrl, hDN, rfl, rfl⟩
  generalize hk : D.length = k at *
  have hrow : (splCells D (N + 1 - k)).length = N + 1 := by rw [splCells_len]; omega
  by_cases h : k < N
  · have h' : (k : Int) < (N : Int) := by omega
    obtain ⟨m, hm, hml, hs, hcc, _⟩ := splitL_some c r (by omega)
    have hset : (splCells D (N + 1 - k)).set k (.sl m (u8s (r.take m))) = splCells (D ++ [r.take m]) (N + 1 - (k + 1)) := by
      rw [show N + 1 - k = (N + 1 - (k + 1)) + 1 by omega, ← hk]
      have e : (r.take m).length = m := by rw [List.length_take]; omega
      have := splCells_set D (N + 1 - (D.length + 1)) (r.take m)
      rw [e] at this; exact this
    have wk : IntKind.i64.wrap ((k : Int) + 1) = ((k + 1 : Nat) : Int) := by rw [wrap_i64 (by omega)]; omega
    have wm0 : IntKind.i64.wrap ((m : Int) + 0) = (m : Int) := by rw [wrap_i64 (by omega)]; omega
    have wm1 : IntKind.i64.wrap ((m : Int) + 1) = ((m + 1 : Nat) : Int) := by rw [wrap_i64 (by omega)]; omega
    have hm0 : ¬ (m : Int) < 0 := by omega
    refine ex_run 60 ?_
    simp (maxSteps := 200000) only [h, h', push_cast, List.getD_cons_zero, List.getD_cons_succ, List.take_succ_cons, List.take_zero, List.drop_succ_cons, Nat.reduceLT, Nat.reduceLeDiff, Nat.reduceEqDiff, Nat.reduceAdd, Nat.reduceMul, Nat.reduceSub, Int.reduceToNat, Int.reduceLE, Int.reduceLT, Int.reduceEq, Int.reduceAdd, ↓reduceIte, decide_true, decide_false, and_self]
    refine call_intro (Index1_c r c hr hc) (fun h => by cases h) ?_
    rw [hm]
    simp (maxSteps := 200000) only [hm0, wm0, wm1, wk, hrow, hset, push_cast, List.getD_cons_zero, List.getD_cons_succ, List.take_succ_cons, List.take_zero, List.drop_succ_cons, Nat.reduceLT, Nat.reduceLeDiff, Nat.reduceEqDiff, Nat.reduceAdd, Nat.reduceMul, Nat.reduceSub, Int.reduceToNat, Int.reduceLE, Int.reduceLT, Int.reduceEq, Int.reduceAdd, ↓reduceIte, decide_true, decide_false, and_self]
    refine ⟨by omega, by omega, by omega, ⟨by omega, by omega⟩, ?_⟩
    have hlr : r.length - ((m : Int) + 1).toNat = (r.drop (m + 1)).length := by rw [List.length_drop]; omega
    have hdr : List.drop ((m : Int) + 1).toNat (List.take r.length r) = r.drop (m + 1) := by rw [List.take_length, show ((m : Int) + 1).toNat = m + 1 by omega]
    rw [hlr, hdr]
    refine run_back_le (le_mk (l' := [(0, .sl (r.drop (m + 1)).length (u8s (r.drop (m + 1)))), (1, .sl 1 [.int .u8 c]), (2, .int .i64 0), (3, .int .i64 N), (9, .own 32 20 0 (N + 1)), (10, .int .i64 ((k + 1 : Nat) : Int))]) (t' := [(32, ⟨20, 1, splCells (D ++ [r.take m]) (N + 1 - (k + 1))⟩)]) (nx' := _) ⟨.refl _, .refl _, .refl _, .refl _, .refl _, .of_eq (congrArg (AV.int .i64) (by omega)), trivial⟩ ⟨⟨_, rfl, rfl, rfl, SubL.refl _⟩, trivial⟩ (Nat.le_refl _)) ?_
    have hDl : (D ++ [r.take m]).length = k + 1 := by rw [List.length_append, hk]; rfl
    exact ⟨N - (k + 1), by omega, D ++ [r.take m], r.drop (m + 1), _, by rw [hD, hs, List.append_assoc]; rfl, inB_drop hr _, by rw [List.length_drop]; omega, by rw [hDl]; omega, by rw [hDl], by rw [hDl]⟩
  · have hke : k = N := by omega
    have hs := splitL_none c r (by omega)
    have h' : ¬ (k : Int) < (N : Int) := by omega
    refine ex_run 60 ?_
    have wk : IntKind.i64.wrap ((k : Int) + 1) = (k : Int) + 1 := wrap_i64 (by omega)
    have tk : ((k : Int) + 1).toNat = k + 1 := by omega
    have hset := splCells_set D 0 r
    rw [hk] at hset
    simp (maxSteps := 200000) only [h', hrow, wk, tk, push_cast, List.getD_cons_zero, List.getD_cons_succ, List.take_succ_cons, List.take_zero, List.drop_succ_cons, Nat.reduceLT, Nat.reduceLeDiff, Nat.reduceEqDiff, Nat.reduceAdd, Nat.reduceMul, Nat.reduceSub, Int.reduceToNat, Int.reduceLE, Int.reduceLT, Int.reduceEq, Int.reduceAdd, ↓reduceIte, decide_true, decide_false, and_self]
    refine ⟨by omega, by omega, ⟨by omega, by omega⟩, ?_⟩
    rw [show N + 1 - k = 0 + 1 by omega, hset, hsl, hke]
    have hfin : splCells (D ++ [r]) 0 = txCells (splitL c l) := by rw [hD, hs]; unfold splCells; simp
    rw [hfin]
    have hcl2 := txCells_closed (splitL c l)
    have hll : (txCells (splitL c l)).length = N + 1 := by rw [txCells_length, hsl]
    exact ⟨_, [.own 0 0 0 (N + 1)], rfl, by simp [outA, outV, outC, mkS_env, mkS_tk, lkF, lkG, AV.closed], .refl _, ⟨_, rfl, hcl2, rfl⟩⟩
set_option maxRecDepth 100000 in
theorem Split_c (l : List Int) (c : Int) (hl : inB l) (hn : l.length ≤ 1099511627776) (hc : 0 ≤ c ∧ c < 256) :
    ACall Tryd.prog 42 [.sl l.length (u8s l), .sl 1 [.int .u8 c]] (.own 0 0 0 (splitL c l).length) (some ⟨0, 1, txCells (splitL c l)⟩) := by
  refine acall_intro (some 7) Tryd.func42 rfl (by kernel_rfl) (by simp [Tryd.f42]) ?_
  refine ex_run 60 ?_
  simp (maxSteps := 200000) only [Tryd.f42, push_cast, List.getD_cons_zero, List.getD_cons_succ, List.take_succ_cons, List.take_zero, List.drop_succ_cons, Nat.reduceLT, Nat.reduceLeDiff, Nat.reduceEqDiff, Nat.reduceAdd, Nat.reduceMul, Nat.reduceSub, Int.reduceToNat, Int.reduceLE, Int.reduceLT, Int.reduceEq, Int.reduceAdd, ↓reduceIte, decide_true, decide_false, and_self]
  refine call_intro (genSplit_c l c hl hn hc) (fun h => by cases h) ?_
  simp (maxSteps := 200000) only [push_cast, List.getD_cons_zero, List.getD_cons_succ, List.take_succ_cons, List.take_zero, List.drop_succ_cons, Nat.reduceLT, Nat.reduceLeDiff, Nat.reduceEqDiff, Nat.reduceAdd, Nat.reduceMul, Nat.reduceSub, Int.reduceToNat, Int.reduceLE, Int.reduceLT, Int.reduceEq, Int.reduceAdd, ↓reduceIte, decide_true, decide_false, and_self]
  exact ⟨_, [.own 0 0 0 (splitL c l).length], rfl, by simp [outA, outV, outC, mkS_env, mkS_tk, lkF, lkG, AV.closed], .refl _, ⟨_, rfl, txCells_closed _, rfl⟩⟩
end Go.Proofs.YteapibifebnboaaDoor
