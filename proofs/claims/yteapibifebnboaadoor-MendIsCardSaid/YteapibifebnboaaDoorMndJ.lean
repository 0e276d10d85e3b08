/- mend.pieces -/
import Derived.Test.YteapibifebnboaaDoorMndI
set_option linter.unusedVariables false
set_option linter.unusedSimpArgs false
namespace Go.Proofs.YteapibifebnboaaDoor
open Go Go.Eng
/-- Where ways meet, behind the next piece of code. -/
theorem run_join1 {P : Program} {N : Nat} {α : Type} {c : It} {k : List It} {Q : AS → Prop} {s : AS} (S : α → AS) (h1 : (∀ a, Run P N k Q (S a)) → Run P N (c :: k) Q s)
    (h2 : ∀ a, Run P N k Q (S a)) : Run P N (c :: k) Q s := h1 h2
def upTo (c : Int) (b : List Int) : List Int := b.takeWhile fun x => x ≠ c
theorem upTo_take (c : Int) (b : List Int) : b.take (upTo c b).length = upTo c b := (List.prefix_iff_eq_take.1 (List.takeWhile_prefix _)).symm
theorem upTo_le (c : Int) (b : List Int) : (upTo c b).length ≤ b.length := (List.takeWhile_sublist _).length_le
theorem upTo_idx (c : Int) : ∀ b : List Int, (idxI b c = -1 ∧ upTo c b = b) ∨ (idxI b c = ((upTo c b).length : Int) ∧ (upTo c b).length < b.length)
  | [] => .inl ⟨rfl, rfl⟩
  | x :: t => by
    by_cases e : x = c
    · right
      have : upTo c (x :: t) = [] := by unfold upTo; rw [List.takeWhile_cons_of_neg (by simp [e])]
      exact ⟨by rw [this, idxI, if_pos e]; rfl, by rw [this]; simp⟩
    · have : upTo c (x :: t) = x :: upTo c t := by unfold upTo; rw [List.takeWhile_cons_of_pos (by simpa using e)]
      rw [this, List.length_cons, List.length_cons, idxI, if_neg e]
      rcases upTo_idx c t with ⟨h1, h2⟩ | ⟨h1, h2⟩
      · left; exact ⟨if_pos h1, by rw [h2]⟩
      · right; rw [h1, if_neg (by omega)]; exact ⟨rfl, by omega⟩
theorem upTo_in {c : Int} {b : List Int} (h : inB b) : inB (upTo c b) := fun x hx => h x ((List.takeWhile_sublist _).subset hx)
/-- What stands where a directory's entries would. -/
def linesM (b : List Int) : List Int := upTo 30 (b.drop 24)
/-- What stands behind, up to a record's end. -/
def rawM (b : List Int) : List Int := upTo 29 ((b.drop 24).drop ((linesM b).length + 1))
/-- The last one is left out if nothing is in it. -/
def dropE (T : List (List Int)) : List (List Int) := if T.getLastD [] = [] then T.dropLast else T
def listM (b : List Int) : List (List Int) := dropE (splitL 30 (rawM b))
def tagAt (b : List Int) (i : Nat) : List Int := ((linesM b).drop (12 * i)).take 3
def tagM (b : List Int) (i : Nat) : List Int := if 12 * i + 3 ≤ (linesM b).length ∧ goodTag (tagAt b i) = true then tagAt b i else [57, 57, 57]
def tgCells (T : List (List Int)) : List AV := T.map .str
def tagsM (b : List Int) (n : Nat) : List (List Int) := (List.range n).map (tagM b)
theorem tagsM_len (b : List Int) (n : Nat) : (tagsM b n).length = n := by simp [tagsM]
theorem tagsM_succ (b : List Int) (n : Nat) : tagsM b (n + 1) = tagsM b n ++ [tagM b n] := by simp [tagsM, List.range_succ]
theorem tgCells_len (T : List (List Int)) : (tgCells T).length = T.length := by simp [tgCells]
theorem tgCells_snoc (T : List (List Int)) (t : List Int) : tgCells (T ++ [t]) = tgCells T ++ [.str t] := by simp [tgCells]
theorem tgCells_closed (T : List (List Int)) : closedL (tgCells T) = true := by
  induction T with
  | nil => rfl
  | cons t T ih => show closedL (.str t :: tgCells T) = true; simp only [closedL, AV.closed, Bool.true_and]; exact ih
set_option maxRecDepth 100000 in
set_option maxHeartbeats 8000000 in
theorem pieces_c (b : List Int) (hl : inB b) (hn : b.length ≤ 1099511627776) :
    ACall Tryd.prog 19 [.sl b.length (u8s b)] (.tup [.sl (listM b).length (txCells (listM b)), .sl (listM b).length (tgCells (tagsM b (listM b).length))]) none := by
  refine acall_intro none Tryd.func19 rfl (by kernel_rfl) (by simp [Tryd.f19]) ?_
  have hidx := upTo_idx 30 (b.drop 24)
  have hdl : (b.drop 24).length = b.length - 24 := List.length_drop
  by_cases h24 : b.length < 24
  · have h24' : (b.length : Int) < 24 := by omega
    have hd : b.drop 24 = [] := List.drop_of_length_le (by omega)
    have e : listM b = [] := by unfold listM rawM; rw [hd]; rfl
    rw [e]
    refine ex_run 60 ?_
    simp (maxSteps := 200000) only [Tryd.f19, h24', push_cast, List.getD_cons_zero, List.getD_cons_succ, List.take_succ_cons, List.take_zero, List.drop_succ_cons, Nat.reduceLT, Nat.reduceLeDiff, Nat.reduceEqDiff, Nat.reduceAdd, Nat.reduceMul, Nat.reduceSub, Int.reduceToNat, Int.reduceLE, Int.reduceLT, Int.reduceEq, Int.reduceAdd, ↓reduceIte, decide_true, decide_false, and_self]
    exact ⟨_, [.nilS, .nilS], rfl, by simp [outA, outV, outL, outC, mkS_env, mkS_tk, lkF, lkG, AV.closed, closedL], sub_tup (ds := [.sl 0 [], .sl 0 []]) ⟨.nil, .nil, trivial⟩, rfl⟩
  · have h24' : ¬ (b.length : Int) < 24 := by omega
    have hI := IndexByte_c (b.drop 24) 30 (inB_drop hl 24) (by decide)
    rw [hdl] at hI
    have hbt : List.take b.length b = b := List.take_length
    have h24i : (24 : Int) ≤ (b.length : Int) := by omega
    refine ex_run 16 ?_
    simp (maxSteps := 200000) only [Tryd.f19, h24', hbt, push_cast, List.getD_cons_zero, List.getD_cons_succ, List.take_succ_cons, List.take_zero, List.drop_succ_cons, Nat.reduceLT, Nat.reduceLeDiff, Nat.reduceEqDiff, Nat.reduceAdd, Nat.reduceMul, Nat.reduceSub, Int.reduceToNat, Int.reduceLE, Int.reduceLT, Int.reduceEq, Int.reduceAdd, ↓reduceIte, decide_true, decide_false, and_self]
    refine ⟨by omega, ?_⟩
    refine call_intro hI (fun h => by cases h) ?_
    rcases hidx with ⟨h1, h2⟩ | ⟨h1, h2⟩
    · have e : listM b = [] := by unfold listM rawM linesM; rw [h2, List.drop_of_length_le (Nat.le_succ _)]; rfl
      rw [e, h1]
      simp (maxSteps := 200000) only [Int.reduceLT, Int.reduceNeg, push_cast, List.getD_cons_zero, List.getD_cons_succ, List.take_succ_cons, List.take_zero, List.drop_succ_cons, Nat.reduceLT, Nat.reduceLeDiff, Nat.reduceEqDiff, Nat.reduceAdd, Nat.reduceMul, Nat.reduceSub, Int.reduceToNat, Int.reduceLE, Int.reduceLT, Int.reduceEq, Int.reduceAdd, ↓reduceIte, decide_true, decide_false, and_self]
      exact ⟨_, [.nilS, .nilS], rfl, by simp [outA, outV, outL, outC, mkS_env, mkS_tk, lkF, lkG, AV.closed, closedL], sub_tup (ds := [.sl 0 [], .sl 0 []]) ⟨.nil, .nil, trivial⟩, rfl⟩
    · rw [h1]
      have hln : upTo 30 (b.drop 24) = linesM b := rfl
      rw [hln] at h2 ⊢
      generalize hL : (linesM b).length = n at *
      have hn0 : ¬ (n : Int) < 0 := by omega
      have w1 : IntKind.i64.wrap (24 + (n : Int)) = ((24 + n : Nat) : Int) := by rw [wrap_i64 (by omega)]; omega
      have w2 : IntKind.i64.wrap (((24 + n : Nat) : Int) + 1) = ((24 + n + 1 : Nat) : Int) := by rw [wrap_i64 (by omega)]; omega
      have hli : (b.take (24 + n)).drop 24 = linesM b := by
        rw [List.drop_take, show 24 + n - 24 = n by omega, ← hL]; exact upTo_take 30 (b.drop 24)
      have hda : b.drop (24 + n + 1) = (b.drop 24).drop (n + 1) := by rw [List.drop_drop]; rfl
      have hdal : (b.drop (24 + n + 1)).length = b.length - (24 + n + 1) := List.length_drop
      have hin : inB (b.drop (24 + n + 1)) := inB_drop hl _
      have hraw : rawM b = upTo 29 (b.drop (24 + n + 1)) := by unfold rawM; rw [hL, hda]
      generalize hD : b.drop (24 + n + 1) = D at *
      have hI2 := IndexByte_c D 29 hin (by decide)
      have h24n : 24 + n - 24 = n := by omega
      have t2 : (((24 + n : Nat) : Int) + 1).toNat = 24 + n + 1 := by omega
      have w3 : IntKind.i64.wrap (((24 + n : Nat) : Int) + 1) = ((24 + n : Nat) : Int) + 1 := wrap_i64 (by omega)
      have hDlen : b.length - (24 + n + 1) = D.length := hdal.symm
      generalize hm : 24 + n = m at *
      simp (maxSteps := 200000) only [hn0, w1, w3, t2, hli, hD, hbt, h24n, hDlen, push_cast, List.getD_cons_zero, List.getD_cons_succ, List.take_succ_cons, List.take_zero, List.drop_succ_cons, Nat.reduceLT, Nat.reduceLeDiff, Nat.reduceEqDiff, Nat.reduceAdd, Nat.reduceMul, Nat.reduceSub, Int.reduceToNat, Int.reduceLE, Int.reduceLT, Int.reduceEq, Int.reduceAdd, ↓reduceIte, decide_true, decide_false, and_self]
      refine ⟨by kernel_rfl, ?_⟩
      refine ⟨⟨by omega, by omega⟩, ⟨by omega, by omega⟩, okTr_of (by kernel_rfl), ?_⟩
      refine ex_run 3 ?_
      simp (maxSteps := 200000) only [push_cast, List.getD_cons_zero, List.getD_cons_succ, List.take_succ_cons, List.take_zero, List.drop_succ_cons, Nat.reduceLT, Nat.reduceLeDiff, Nat.reduceEqDiff, Nat.reduceAdd, Nat.reduceMul, Nat.reduceSub, Int.reduceToNat, Int.reduceLE, Int.reduceLT, Int.reduceEq, Int.reduceAdd, ↓reduceIte, decide_true, decide_false, and_self]
      refine call_intro hI2 (fun h => by cases h) ?_
      simp (maxSteps := 200000) only [push_cast, List.getD_cons_zero, List.getD_cons_succ, List.take_succ_cons, List.take_zero, List.drop_succ_cons, Nat.reduceLT, Nat.reduceLeDiff, Nat.reduceEqDiff, Nat.reduceAdd, Nat.reduceMul, Nat.reduceSub, Int.reduceToNat, Int.reduceLE, Int.reduceLT, Int.reduceEq, Int.reduceAdd, ↓reduceIte, decide_true, decide_false, and_self]
      refine run_join1 (fun nx : Nat => mkS [(2, .nilS), (3, .nilS), (5, .sl n (u8s (linesM b))), (6, .sl (rawM b).length (u8s (rawM b)))] [] nx) (fun h => ?_) ?_
      · rcases upTo_idx 29 D with ⟨k1, k2⟩ | ⟨k1, k2⟩
        · rw [k1]
          refine ex_run 4 ?_
          simp (maxSteps := 200000) only [Int.reduceLT, Int.reduceNeg, Int.reduceLE, push_cast, List.getD_cons_zero, List.getD_cons_succ, List.take_succ_cons, List.take_zero, List.drop_succ_cons, Nat.reduceLT, Nat.reduceLeDiff, Nat.reduceEqDiff, Nat.reduceAdd, Nat.reduceMul, Nat.reduceSub, Int.reduceToNat, Int.reduceLE, Int.reduceLT, Int.reduceEq, Int.reduceAdd, ↓reduceIte, decide_true, decide_false, and_self]
          refine run_keep (l' := [(2, .nilS), (3, .nilS), (5, .sl n (u8s (linesM b))), (6, .sl (rawM b).length (u8s (rawM b)))]) (t' := []) (nx' := _) ⟨.refl _, .refl _, .refl _, .of_eq (by rw [hraw, k2]), trivial⟩ trivial (Nat.le_refl _) ?_
          exact h _
        · rw [k1]
          have hk0 : (0 : Int) ≤ ((upTo 29 D).length : Int) := by omega
          have htk := upTo_take 29 D
          rw [← hraw] at k2 htk hk0 ⊢
          generalize hk : (rawM b).length = k at *
          refine ex_run 4 ?_
          simp (maxSteps := 200000) only [hk0, htk, push_cast, List.getD_cons_zero, List.getD_cons_succ, List.take_succ_cons, List.take_zero, List.drop_succ_cons, Nat.reduceLT, Nat.reduceLeDiff, Nat.reduceEqDiff, Nat.reduceAdd, Nat.reduceMul, Nat.reduceSub, Int.reduceToNat, Int.reduceLE, Int.reduceLT, Int.reduceEq, Int.reduceAdd, ↓reduceIte, decide_true, decide_false, and_self]
          refine ⟨by omega, ?_⟩
          refine run_keep (l' := [(2, .nilS), (3, .nilS), (5, .sl n (u8s (linesM b))), (6, .sl k (u8s (rawM b)))]) (t' := []) (nx' := _) ⟨.refl _, .refl _, .refl _, .refl _, trivial⟩ trivial (Nat.le_refl _) ?_
          exact h _
      · intro nx
        have hrl : (rawM b).length ≤ D.length := by rw [hraw]; exact upTo_le 29 D
        have hri : inB (rawM b) := by rw [hraw]; exact upTo_in hin
        have hsp := Split_c (rawM b) 30 hri (by omega) (by decide)
        have hne := splitL_ne 30 (rawM b)
        have hsl := splitL_len 30 (rawM b)
        have hcr : (rawM b).count 30 ≤ (rawM b).length := List.count_le_length
        refine ex_run 1 ?_
        simp (maxSteps := 200000) only [push_cast, List.getD_cons_zero, List.getD_cons_succ, List.take_succ_cons, List.take_zero, List.drop_succ_cons, Nat.reduceLT, Nat.reduceLeDiff, Nat.reduceEqDiff, Nat.reduceAdd, Nat.reduceMul, Nat.reduceSub, Int.reduceToNat, Int.reduceLE, Int.reduceLT, Int.reduceEq, Int.reduceAdd, ↓reduceIte, decide_true, decide_false, and_self]
        refine run_region_cut 2 (by decide) ?_
        simp (maxSteps := 200000) only [List.toList_toArray, push_cast, List.getD_cons_zero, List.getD_cons_succ, List.take_succ_cons, List.take_zero, List.drop_succ_cons, Nat.reduceLT, Nat.reduceLeDiff, Nat.reduceEqDiff, Nat.reduceAdd, Nat.reduceMul, Nat.reduceSub, Int.reduceToNat, Int.reduceLE, Int.reduceLT, Int.reduceEq, Int.reduceAdd, ↓reduceIte, decide_true, decide_false, and_self]
        refine ⟨mkS [(36, .sl 1 [.int .u8 30]), (35, .sl (rawM b).length (u8s (rawM b))), (2, .nilS), (3, .nilS), (5, .sl n (u8s (linesM b)))] [] (nx + 4),
          freeze_leU 36 ⟨_, 1, [.int .u8 30]⟩ rfl ⟨frz_own 36 _ [30], .keep _, .keep _, .keep _, .keep _, trivial⟩ trivial, rfl, ?_⟩
        simp (maxSteps := 200000) only [List.toList_toArray, push_cast, List.getD_cons_zero, List.getD_cons_succ, List.take_succ_cons, List.take_zero, List.drop_succ_cons, Nat.reduceLT, Nat.reduceLeDiff, Nat.reduceEqDiff, Nat.reduceAdd, Nat.reduceMul, Nat.reduceSub, Int.reduceToNat, Int.reduceLE, Int.reduceLT, Int.reduceEq, Int.reduceAdd, ↓reduceIte, decide_true, decide_false, and_self]
        refine call_intro hsp (fun h => by cases h) ?_
        have hlist : listM b = dropE (splitL 30 (rawM b)) := rfl
        generalize splitL 30 (rawM b) = T at *
        obtain ⟨N, hN⟩ : ∃ N, T.length = N + 1 := ⟨_, hsl⟩
        have hTl := txCells_length T
        have hTc := txCells_closed T
        have hTg := txCells_get T N (by omega)
        have hlast : T.getLastD [] = T[N]'(by omega) := by
          rw [List.getLastD_eq_getLast?, List.getLast?_eq_getElem?, show T.length - 1 = N by omega, List.getElem?_eq_getElem (by omega)]; rfl
        have hLl : (listM b).length ≤ N + 1 := by rw [hlist]; unfold dropE; split <;> (try rw [List.length_dropLast]) <;> omega
        simp (maxSteps := 200000) only [push_cast, List.getD_cons_zero, List.getD_cons_succ, List.take_succ_cons, List.take_zero, List.drop_succ_cons, Nat.reduceLT, Nat.reduceLeDiff, Nat.reduceEqDiff, Nat.reduceAdd, Nat.reduceMul, Nat.reduceSub, Int.reduceToNat, Int.reduceLE, Int.reduceLT, Int.reduceEq, Int.reduceAdd, ↓reduceIte, decide_true, decide_false, and_self]
        rw [hN]
        refine Go.Eng.run_freeze (l' := [(2, .sl (N + 1) (txCells T)), (3, .nilS), (5, .sl n (u8s (linesM b)))]) (tl' := []) 37 ⟨_, 1, txCells T⟩ rfl ⟨frz_one (by rw [hTl, hN]), .keep _, .keep _, trivial⟩ trivial ?_
        refine run_join (fun nx : Nat => mkS [(2, .sl (listM b).length (txCells (listM b))), (3, .nilS), (5, .sl n (u8s (linesM b)))] [] nx) (fun h => ?_) ?_
        · generalize T[N]'(by omega) = p at *
          have hN1 : (N : Int) + 1 - 1 = (N : Int) := by omega
          have wN : IntKind.i64.wrap ((N : Int) + 1 - 1) = (N : Int) := by rw [hN1]; exact wrap_i64 (by omega)
          have hNl : N < (txCells T).length := by omega
          have wN' : IntKind.i64.wrap (N : Int) = (N : Int) := wrap_i64 (by omega)
          have hNN : N < N + 1 := Nat.lt_succ_self N
          have hdt : (txCells T).take N = txCells T.dropLast := by rw [List.dropLast_eq_take, hN]; unfold txCells; rw [List.map_take]; rfl
          by_cases h0 : p = []
          · have hL : listM b = T.dropLast := by rw [hlist]; unfold dropE; rw [hlast, if_pos h0]
            subst h0
            refine ex_run 5 ?_
            simp (maxSteps := 200000) only [hTl, hN, hTg, hNl, wN, wN', hNN, hdt, hN1, List.length_nil, push_cast, List.getD_cons_zero, List.getD_cons_succ, List.take_succ_cons, List.take_zero, List.drop_succ_cons, Nat.reduceLT, Nat.reduceLeDiff, Nat.reduceEqDiff, Nat.reduceAdd, Nat.reduceMul, Nat.reduceSub, Int.reduceToNat, Int.reduceLE, Int.reduceLT, Int.reduceEq, Int.reduceAdd, ↓reduceIte, decide_true, decide_false, and_self]
            refine ⟨⟨by omega, by omega⟩, by omega, ?_⟩
            refine run_keep (l' := [(2, .sl (listM b).length (txCells (listM b))), (3, .nilS), (5, .sl n (u8s (linesM b)))]) (t' := []) (nx' := _) ⟨.of_eq (by rw [hL, List.length_dropLast, hN]; rfl), .refl _, .refl _, trivial⟩ trivial (Nat.le_refl _) ?_
            exact h _
          · have hL : listM b = T := by rw [hlist]; unfold dropE; rw [hlast, if_neg h0]
            have h0l : ¬ (p.length : Int) = 0 := by
              cases p with
              | nil => exact absurd rfl h0
              | cons x t => rw [List.length_cons]; omega
            refine ex_run 5 ?_
            simp (maxSteps := 200000) only [hTl, hN, hTg, hNl, wN, wN', hNN, hdt, hN1, h0l, push_cast, List.getD_cons_zero, List.getD_cons_succ, List.take_succ_cons, List.take_zero, List.drop_succ_cons, Nat.reduceLT, Nat.reduceLeDiff, Nat.reduceEqDiff, Nat.reduceAdd, Nat.reduceMul, Nat.reduceSub, Int.reduceToNat, Int.reduceLE, Int.reduceLT, Int.reduceEq, Int.reduceAdd, ↓reduceIte, decide_true, decide_false, and_self]
            refine ⟨⟨by omega, by omega⟩, ?_⟩
            refine run_keep (l' := [(2, .sl (listM b).length (txCells (listM b))), (3, .nilS), (5, .sl n (u8s (linesM b)))]) (t' := []) (nx' := _) ⟨.of_eq (by rw [hL, hN]), .refl _, .refl _, trivial⟩ trivial (Nat.le_refl _) ?_
            exact h _
        · intro nx
          generalize listM b = L at *
          have hLc := txCells_length L
          have hLcl := txCells_closed L
          refine ex_run 30 ?_
          simp (maxSteps := 200000) only [push_cast, List.getD_cons_zero, List.getD_cons_succ, List.take_succ_cons, List.take_zero, List.drop_succ_cons, Nat.reduceLT, Nat.reduceLeDiff, Nat.reduceEqDiff, Nat.reduceAdd, Nat.reduceMul, Nat.reduceSub, Int.reduceToNat, Int.reduceLE, Int.reduceLT, Int.reduceEq, Int.reduceAdd, ↓reduceIte, decide_true, decide_false, and_self]
          refine run_lazy 3 100 1 rfl ?_
          refine run_keep (l' := [(2, .sl L.length (txCells L)), (3, .own 100 _ 0 (tagsM b 0).length), (5, .sl n (u8s (linesM b))), (52, .int .i64 L.length), (53, .int .i64 0)]) (t' := [(100, ⟨_, 1, tgCells (tagsM b 0)⟩)]) (nx' := _) ⟨.refl _, .refl _, .refl _, .refl _, .refl _, trivial⟩ ⟨⟨_, rfl, rfl, rfl, SubL.refl _⟩, trivial⟩ (Nat.le_refl _) ?_
          refine run_loop (fun k s => ∃ (i g nx : Nat), i ≤ L.length ∧ k = L.length - i ∧ s = mkS [(2, .sl L.length (txCells L)), (3, .own 100 g 0 (tagsM b i).length), (5, .sl n (u8s (linesM b))), (52, .int .i64 L.length), (53, .int .i64 i)] [(100, ⟨g, 1, tgCells (tagsM b i)⟩)] nx) _ ⟨0, _, _, Nat.zero_le _, rfl, rfl⟩ ?_
          rintro k s ⟨i, g, nx, hi, rfl, rfl⟩
          have htl := tagsM_len b i
          have htc := tgCells_len (tagsM b i)
          by_cases h : i < L.length
          · have h' : (i : Int) < (L.length : Int) := by omega
            have hw : IntKind.i64.wrap ((i : Int) + 1) = ((i + 1 : Nat) : Int) := by rw [wrap_i64 (by omega)]; omega
            have hs := tagsM_succ b i
            have hw1 : IntKind.i64.wrap (12 * (i : Int)) = ((12 * i : Nat) : Int) := by rw [wrap_i64 (by omega)]; omega
            have hw2 : IntKind.i64.wrap (((12 * i : Nat) : Int) + 3) = ((12 * i : Nat) : Int) + 3 := wrap_i64 (by omega)
            have hw3 : (((12 * i : Nat) : Int) + 3).toNat = 12 * i + 3 := by omega
            have htag : tagM b i = if 12 * i + 3 ≤ (linesM b).length ∧ goodTag (tagAt b i) = true then tagAt b i else [57, 57, 57] := rfl
            have hta : ((linesM b).take (12 * i + 3)).drop (12 * i) = tagAt b i := by rw [List.drop_take, show 12 * i + 3 - 12 * i = 3 by omega]; rfl
            have htl3 : (tagAt b i).length ≤ 3 := by unfold tagAt; rw [List.length_take]; omega
            have hio : intsOf (u8s (tagAt b i)) = some (tagAt b i) := intsOf_u8s _
            have hui : u8n (tagAt b i) = tagAt b i := u8n_eq fun c hc => (show inB (linesM b) from upTo_in (inB_drop hl 24)) c (List.mem_of_mem_drop (List.mem_of_mem_take hc))
            have h999 : bytesOf { data := #[57, 57, 57] } = [57, 57, 57] := rfl
            have hta3 : 12 * i + 3 ≤ n → (tagAt b i).length = 3 := fun h => by unfold tagAt; rw [List.length_take, List.length_drop, hL]; omega
            rw [hL] at htag
            generalize tagM b i = tg at *
            generalize tagAt b i = ta at *
            generalize tagsM b i = A at *
            generalize h12 : 12 * i = z at *
            by_cases hz : z + 3 ≤ n
            · have hz' : (z : Int) + 3 ≤ (n : Int) := by omega
              refine ex_run 60 ?_
              simp (maxSteps := 200000) only [h, h', hw, hw1, hw2, hw3, hz, hz', hta, hio, hui, h999, htl, htc, push_cast, List.getD_cons_zero, List.getD_cons_succ, List.take_succ_cons, List.take_zero, List.drop_succ_cons, Nat.reduceLT, Nat.reduceLeDiff, Nat.reduceEqDiff, Nat.reduceAdd, Nat.reduceMul, Nat.reduceSub, Int.reduceToNat, Int.reduceLE, Int.reduceLT, Int.reduceEq, Int.reduceAdd, ↓reduceIte, decide_true, decide_false, and_self]
              have hta3' := hta3 hz
              refine ⟨hL, by omega, by omega, ?_⟩
              refine call_intro (GoodTag_c ta (by omega)) (fun h => by cases h) ?_
              cases hq : goodTag ta with
              | true =>
                rw [if_pos ⟨hz, hq⟩] at htag
                simp (maxSteps := 200000) only [h, h', hw, hw1, hw2, hw3, hz, hz', hta, hio, hui, h999, htl, htc, push_cast, List.getD_cons_zero, List.getD_cons_succ, List.take_succ_cons, List.take_zero, List.drop_succ_cons, Nat.reduceLT, Nat.reduceLeDiff, Nat.reduceEqDiff, Nat.reduceAdd, Nat.reduceMul, Nat.reduceSub, Int.reduceToNat, Int.reduceLE, Int.reduceLT, Int.reduceEq, Int.reduceAdd, ↓reduceIte, decide_true, decide_false, and_self]
                refine ⟨hL, by omega, by omega, ⟨by omega, by omega⟩, ?_⟩
                refine run_back_le (le_mk (l' := [(2, .sl L.length (txCells L)), (3, .own 100 _ 0 (tagsM b (i + 1)).length), (5, .sl n (u8s (linesM b))), (52, .int .i64 L.length), (53, .int .i64 ((i + 1 : Nat) : Int))]) (t' := [(100, ⟨_, 1, tgCells (tagsM b (i + 1))⟩)]) (nx' := _) ⟨.refl _, .of_eq (congrArg (AV.own 100 _ 0) (tagsM_len b (i + 1)).symm), .refl _, .refl _, .of_eq (congrArg (AV.int .i64) (by omega)), trivial⟩ ⟨⟨_, rfl, rfl, rfl, by rw [hs, tgCells_snoc, htag]; exact SubL.refl _⟩, trivial⟩ (Nat.le_refl _)) ?_
                exact ⟨L.length - (i + 1), by omega, i + 1, _, _, by omega, rfl, rfl⟩
              | false =>
                rw [if_neg (fun e => by rw [hq] at e; exact absurd e.2 (by simp))] at htag
                simp (maxSteps := 200000) only [h, h', hw, hw1, hw2, hw3, hz, hz', hta, hio, hui, h999, htl, htc, push_cast, List.getD_cons_zero, List.getD_cons_succ, List.take_succ_cons, List.take_zero, List.drop_succ_cons, Nat.reduceLT, Nat.reduceLeDiff, Nat.reduceEqDiff, Nat.reduceAdd, Nat.reduceMul, Nat.reduceSub, Int.reduceToNat, Int.reduceLE, Int.reduceLT, Int.reduceEq, Int.reduceAdd, ↓reduceIte, decide_true, decide_false, and_self]
                refine ⟨⟨by omega, by omega⟩, ?_⟩
                refine run_back_le (le_mk (l' := [(2, .sl L.length (txCells L)), (3, .own 100 _ 0 (tagsM b (i + 1)).length), (5, .sl n (u8s (linesM b))), (52, .int .i64 L.length), (53, .int .i64 ((i + 1 : Nat) : Int))]) (t' := [(100, ⟨_, 1, tgCells (tagsM b (i + 1))⟩)]) (nx' := _) ⟨.refl _, .of_eq (congrArg (AV.own 100 _ 0) (tagsM_len b (i + 1)).symm), .refl _, .refl _, .of_eq (congrArg (AV.int .i64) (by omega)), trivial⟩ ⟨⟨_, rfl, rfl, rfl, by rw [hs, tgCells_snoc, htag]; exact SubL.refl _⟩, trivial⟩ (Nat.le_refl _)) ?_
                exact ⟨L.length - (i + 1), by omega, i + 1, _, _, by omega, rfl, rfl⟩
            · have hz' : ¬ (z : Int) + 3 ≤ (n : Int) := by omega
              refine ex_run 60 ?_
              simp (maxSteps := 200000) only [h, h', hw, hw1, hw2, hw3, hz, hz', h999, htl, htc, push_cast, List.getD_cons_zero, List.getD_cons_succ, List.take_succ_cons, List.take_zero, List.drop_succ_cons, Nat.reduceLT, Nat.reduceLeDiff, Nat.reduceEqDiff, Nat.reduceAdd, Nat.reduceMul, Nat.reduceSub, Int.reduceToNat, Int.reduceLE, Int.reduceLT, Int.reduceEq, Int.reduceAdd, ↓reduceIte, decide_true, decide_false, and_self]
              rw [if_neg (fun e => hz e.1)] at htag
              refine ⟨⟨by omega, by omega⟩, ?_⟩
              refine run_back_le (le_mk (l' := [(2, .sl L.length (txCells L)), (3, .own 100 _ 0 (tagsM b (i + 1)).length), (5, .sl n (u8s (linesM b))), (52, .int .i64 L.length), (53, .int .i64 ((i + 1 : Nat) : Int))]) (t' := [(100, ⟨_, 1, tgCells (tagsM b (i + 1))⟩)]) (nx' := _) ⟨.refl _, .of_eq (congrArg (AV.own 100 _ 0) (tagsM_len b (i + 1)).symm), .refl _, .refl _, .of_eq (congrArg (AV.int .i64) (by omega)), trivial⟩ ⟨⟨_, rfl, rfl, rfl, by rw [hs, tgCells_snoc, htag]; exact SubL.refl _⟩, trivial⟩ (Nat.le_refl _)) ?_
              exact ⟨L.length - (i + 1), by omega, i + 1, _, _, by omega, rfl, rfl⟩
          · have h' : ¬ (i : Int) < (L.length : Int) := by omega
            have hie : i = L.length := by omega
            refine ex_run 60 ?_
            simp (maxSteps := 200000) only [h, h', push_cast, List.getD_cons_zero, List.getD_cons_succ, List.take_succ_cons, List.take_zero, List.drop_succ_cons, Nat.reduceLT, Nat.reduceLeDiff, Nat.reduceEqDiff, Nat.reduceAdd, Nat.reduceMul, Nat.reduceSub, Int.reduceToNat, Int.reduceLE, Int.reduceLT, Int.reduceEq, Int.reduceAdd, ↓reduceIte, decide_true, decide_false, and_self]
            have htk : (tgCells (tagsM b L.length)).take (tagsM b L.length).length = tgCells (tagsM b L.length) := List.take_of_length_le (by rw [tgCells_len]; exact Nat.le_refl _)
            have hcl := tgCells_closed (tagsM b L.length)
            have htl2 := tagsM_len b L.length
            rw [hie]
            rw [htl2] at htk ⊢
            exact ⟨[.sl L.length (txCells L), .own 100 g 0 L.length], [.sl L.length (txCells L), .sl L.length (tgCells (tagsM b L.length))], rfl, by simp [outA, outV, outL, outC, mkS_env, mkS_tk, lkF, lkG, hLcl, hcl, htk, AV.closed, closedL], .refl _, rfl⟩
end Go.Proofs.YteapibifebnboaaDoor
