/- The law FieldKeeps: where the texts are not too long it returns true. -/
import Derived.Test.YteapibifebnboaaFkC
set_option linter.unusedVariables false
set_option linter.unusedSimpArgs false
namespace Go.Proofs.Yteapibifebnboaa
open Go Go.Eng
theorem run_join22 {P : Program} {N : Nat} {α : Type} {A B rest : Code} {k : List It} {Q : AS → Prop} {s : AS} (S : α → AS) (h1 : (∀ a, Run P N (.code rest :: k) Q (S a)) → Run P N (.code (A.seq (B.seq rest)) :: k) Q s)
    (h2 : ∀ a, Run P N (.code rest :: k) Q (S a)) : Run P N (.code (A.seq (B.seq rest)) :: k) Q s := h1 h2
theorem u8s_setF (b : List Int) (j : Nat) (c : Int) : (u8s b).set j (.int .u8 c) = u8s (b.set j c) := by simp [u8s, List.map_set]
theorem sumT_bound {B : Nat} : ∀ {T : List (List Int)}, (∀ t ∈ T, t.length ≤ B) → sumT T ≤ T.length * (B + 1)
  | [], _ => by simp [sumT]
  | t :: T, h => by
    have ih := sumT_bound (T := T) fun t ht => h t (List.mem_cons_of_mem _ ht)
    have h1 := h t (List.mem_cons_self ..)
    have e : sumT (t :: T) = t.length + 1 + sumT T := by unfold sumT one0; simp; omega
    rw [e, List.length_cons, Nat.succ_mul]; omega
theorem with_nosubs {f : FV} {T : List (List Int)} (hm : mayW f T = true) (hc : List.isPrefixOf [48, 48] f.tag = true ∨ f.subs = []) : (withF f T).subs = [] := by
  have hg : goodF (withF f T) = true := by unfold mayW at hm; rw [Bool.and_eq_true] at hm; exact hm.2
  rcases hc with hc | hc
  · have hct : ctl f.tag = true := hc
    have ht : (withF f T).tag = f.tag := by unfold withF; rw [if_pos hct]
    have := (fparse_bytes (goodF_eq hg)).2.2.2
    rw [ht] at this
    exact this hct
  · unfold withF
    split
    · exact hc
    · show wsubs f.subs T f.subs.length = []
      rw [hc]; rfl
set_option maxRecDepth 100000 in
set_option maxHeartbeats 8000000 in
theorem FieldKeeps_c (f : FV) (T : List (List Int)) (h1 : f.tag.length ≤ 140737488351232) (h2 : f.text.length ≤ 140737488351232) (h3 : ∀ s ∈ f.subs, s.2.length ≤ 140737488351232) (h4 : f.subs.length ≤ 140737488351232) (hF : FB f)
    (hT : ∀ t ∈ T, inB t ∧ t.length ≤ 1048576) (hTn : T.length ≤ 140737488351232) :
    ACall Try.prog 10 [.agg (fCells f), .sl T.length (txCells T)] (.bool true) none := by
  have hcl : closedL (subCells f.subs) = true := subCells_closed _
  have hct : closedL (txCells T) = true := txCells_closed _
  refine acall_intro none Try.func10 rfl (by kernel_rfl) (by simp [Try.f10]) ?_
  refine ex_run 7 ?_
  simp (maxSteps := 200000) only [Try.f10, fCells, hcl, push_cast, List.getD_cons_zero, List.getD_cons_succ, List.take_succ_cons, List.take_zero, List.drop_succ_cons, Nat.reduceLT, Nat.reduceLeDiff, Nat.reduceEqDiff, Nat.reduceAdd, Nat.reduceMul, Nat.reduceSub, Int.reduceToNat, Int.reduceLE, Int.reduceLT, Int.reduceEq, Int.reduceAdd, ↓reduceIte, decide_true, decide_false, and_self]
  refine call_intro (small_c f h1 h2 h3 h4) (fun h => by cases h) ?_
  by_cases hsm : tot f < 20000
  · rw [decide_eq_true hsm]
    have hfb := fbytes_tot f
    have hcnt := flat_cnt f.subs
    have hn : f.subs.length ≤ 20000 := by unfold tot at hsm; omega
    have hx : f.text.length ≤ 20000 := by unfold tot at hsm; omega
    by_cases hT50 : 50 < T.length
    · have hT50' : (50 : Int) < (T.length : Int) := by omega
      simp (maxSteps := 200000) only [fCells, hcl, hT50, hT50', push_cast, List.getD_cons_zero, List.getD_cons_succ, List.take_succ_cons, List.take_zero, List.drop_succ_cons, Nat.reduceLT, Nat.reduceLeDiff, Nat.reduceEqDiff, Nat.reduceAdd, Nat.reduceMul, Nat.reduceSub, Int.reduceToNat, Int.reduceLE, Int.reduceLT, Int.reduceEq, Int.reduceAdd, ↓reduceIte, decide_true, decide_false, and_self]
      refine ex_run 20 ?_
      simp (maxSteps := 200000) only [push_cast, List.getD_cons_zero, List.getD_cons_succ, List.take_succ_cons, List.take_zero, List.drop_succ_cons, Nat.reduceLT, Nat.reduceLeDiff, Nat.reduceEqDiff, Nat.reduceAdd, Nat.reduceMul, Nat.reduceSub, Int.reduceToNat, Int.reduceLE, Int.reduceLT, Int.reduceEq, Int.reduceAdd, ↓reduceIte, decide_true, decide_false, and_self]
      refine call_intro answers21_c (fun h => by cases h) ?_
      simp (maxSteps := 200000) only [push_cast, List.getD_cons_zero, List.getD_cons_succ, List.take_succ_cons, List.take_zero, List.drop_succ_cons, Nat.reduceLT, Nat.reduceLeDiff, Nat.reduceEqDiff, Nat.reduceAdd, Nat.reduceMul, Nat.reduceSub, Int.reduceToNat, Int.reduceLE, Int.reduceLT, Int.reduceEq, Int.reduceAdd, ↓reduceIte, decide_true, decide_false, and_self]
      exact ⟨_, _, rfl, rfl, .refl _, rfl⟩
    · by_cases hS50 : 50 < f.subs.length
      · have hT50' : ¬ (50 : Int) < (T.length : Int) := by omega
        have hS50' : (50 : Int) < (f.subs.length : Int) := by omega
        simp (maxSteps := 200000) only [fCells, hcl, hT50, hT50', hS50, hS50', push_cast, List.getD_cons_zero, List.getD_cons_succ, List.take_succ_cons, List.take_zero, List.drop_succ_cons, Nat.reduceLT, Nat.reduceLeDiff, Nat.reduceEqDiff, Nat.reduceAdd, Nat.reduceMul, Nat.reduceSub, Int.reduceToNat, Int.reduceLE, Int.reduceLT, Int.reduceEq, Int.reduceAdd, ↓reduceIte, decide_true, decide_false, and_self]
        refine ex_run 20 ?_
        simp (maxSteps := 200000) only [push_cast, List.getD_cons_zero, List.getD_cons_succ, List.take_succ_cons, List.take_zero, List.drop_succ_cons, Nat.reduceLT, Nat.reduceLeDiff, Nat.reduceEqDiff, Nat.reduceAdd, Nat.reduceMul, Nat.reduceSub, Int.reduceToNat, Int.reduceLE, Int.reduceLT, Int.reduceEq, Int.reduceAdd, ↓reduceIte, decide_true, decide_false, and_self]
        refine call_intro answers21_c (fun h => by cases h) ?_
        simp (maxSteps := 200000) only [push_cast, List.getD_cons_zero, List.getD_cons_succ, List.take_succ_cons, List.take_zero, List.drop_succ_cons, Nat.reduceLT, Nat.reduceLeDiff, Nat.reduceEqDiff, Nat.reduceAdd, Nat.reduceMul, Nat.reduceSub, Int.reduceToNat, Int.reduceLE, Int.reduceLT, Int.reduceEq, Int.reduceAdd, ↓reduceIte, decide_true, decide_false, and_self]
        exact ⟨_, _, rfl, rfl, .refl _, rfl⟩
      · have hT50' : ¬ (50 : Int) < (T.length : Int) := by omega
        have hS50' : ¬ (50 : Int) < (f.subs.length : Int) := by omega
        simp (maxSteps := 200000) only [fCells, hcl, hT50, hT50', hS50, hS50', push_cast, List.getD_cons_zero, List.getD_cons_succ, List.take_succ_cons, List.take_zero, List.drop_succ_cons, Nat.reduceLT, Nat.reduceLeDiff, Nat.reduceEqDiff, Nat.reduceAdd, Nat.reduceMul, Nat.reduceSub, Int.reduceToNat, Int.reduceLE, Int.reduceLT, Int.reduceEq, Int.reduceAdd, ↓reduceIte, decide_true, decide_false, and_self]
        refine ex_run 3 ?_
        simp (maxSteps := 200000) only [fCells, hcl, push_cast, List.getD_cons_zero, List.getD_cons_succ, List.take_succ_cons, List.take_zero, List.drop_succ_cons, Nat.reduceLT, Nat.reduceLeDiff, Nat.reduceEqDiff, Nat.reduceAdd, Nat.reduceMul, Nat.reduceSub, Int.reduceToNat, Int.reduceLE, Int.reduceLT, Int.reduceEq, Int.reduceAdd, ↓reduceIte, decide_true, decide_false, and_self]
        refine call_intro (rbytes_s f (by omega) (by omega)) (fun h => by cases h) ?_
        simp (maxSteps := 200000) only [fCells, hcl, push_cast, List.getD_cons_zero, List.getD_cons_succ, List.take_succ_cons, List.take_zero, List.drop_succ_cons, Nat.reduceLT, Nat.reduceLeDiff, Nat.reduceEqDiff, Nat.reduceAdd, Nat.reduceMul, Nat.reduceSub, Int.reduceToNat, Int.reduceLE, Int.reduceLT, Int.reduceEq, Int.reduceAdd, ↓reduceIte, decide_true, decide_false, and_self]
        refine run_keep (l' := [(5, .sl (fbytes f).length (u8s (fbytes f))), (4, .bool false), (2, .addr 2 0 0), (1, .sl T.length (txCells T))]) (t' := [(2, ⟨0, 1, fCells f⟩)]) (nx' := _) ⟨.refl _, .refl _, .refl _, .refl _, trivial⟩ ⟨⟨_, rfl, rfl, rfl, SubL.refl _⟩, trivial⟩ (Nat.le_refl _) ?_
        refine run_region_scall 1 _ rfl ?_
        simp (maxSteps := 200000) only [List.toList_toArray, fCells, push_cast, List.getD_cons_zero, List.getD_cons_succ, List.take_succ_cons, List.take_zero, List.drop_succ_cons, Nat.reduceLT, Nat.reduceLeDiff, Nat.reduceEqDiff, Nat.reduceAdd, Nat.reduceMul, Nat.reduceSub, Int.reduceToNat, Int.reduceLE, Int.reduceLT, Int.reduceEq, Int.reduceAdd, ↓reduceIte, decide_true, decide_false, and_self]
        refine ⟨_, _, [], _, 30, _, rfl, rfl, callAt0 rfl rfl rfl (by decide) rfl rfl (Texts_s f (by omega) (by omega) (fun s hs => by have := h3 s hs; omega) (by omega) _), ?_⟩
        rintro r tl' nx' ⟨g, cs, R, rfl, rfl, hok⟩ hge
        have hp : ∀ t T, lkT [(2, (⟨0, 1, T⟩ : Tok))] t = none ∨ t = 2 := fun t T => by
          rw [lkT_cons]
          by_cases h : t = 2
          · exact .inr h
          · rw [if_neg h]; exact .inl rfl
        refine ⟨⟨rfl, fun t T0 e => ?_⟩, ?_⟩
        · rw [lkT_cons] at e
          split at e
          · cases e
            refine hok.ref fun t ht => ?_
            rcases hp t _ with h | h
            · rw [h]; rfl
            · omega
          · exact closedL_refOk _ _ (hok.row t T0 e).2.2
        simp (maxSteps := 200000) only [List.toList_toArray, push_cast, List.getD_cons_zero, List.getD_cons_succ, List.take_succ_cons, List.take_zero, List.drop_succ_cons, Nat.reduceLT, Nat.reduceLeDiff, Nat.reduceEqDiff, Nat.reduceAdd, Nat.reduceMul, Nat.reduceSub, Int.reduceToNat, Int.reduceLE, Int.reduceLT, Int.reduceEq, Int.reduceAdd, ↓reduceIte, decide_true, decide_false, and_self]
        generalize hnn : (textsOf f).length = n at *
        refine run_keepF (l' := [(6, .own 1000 g 0 n), (5, .sl (fbytes f).length (u8s (fbytes f))), (4, .bool false), (2, .addr 2 0 0), (1, .sl T.length (txCells T))]) (tl' := (2, ⟨0, 1, fCells f⟩) :: (1000, ⟨g, 1, cs⟩) :: R) (nx' := _) ⟨.refl _, .refl _, .refl _, .refl _, .refl _, trivial⟩ (fun j T' e => ?_) (Nat.le_refl _) ?_
        · refine ⟨T', ?_, rfl, rfl, SubL.refl _⟩
          rw [lkT_cons] at e ⊢
          by_cases hj : j = 2
          · subst hj
            rw [if_pos rfl] at e
            rw [if_neg (by omega), lkT_append, hok.none_ (by omega)]
            exact e
          · rw [if_neg hj, lkT_cons] at e
            by_cases hj2 : j = 1000
            · rw [if_pos hj2] at e ⊢; exact e
            · rw [if_neg hj2] at e ⊢
              rw [lkT_append, e]
        have hn1 : n ≤ 20001 := by rw [← hnn]; unfold textsOf; split <;> simp <;> omega
        refine ex_run 4 ?_
        simp (maxSteps := 200000) only [push_cast, List.getD_cons_zero, List.getD_cons_succ, List.take_succ_cons, List.take_zero, List.drop_succ_cons, Nat.reduceLT, Nat.reduceLeDiff, Nat.reduceEqDiff, Nat.reduceAdd, Nat.reduceMul, Nat.reduceSub, Int.reduceToNat, Int.reduceLE, Int.reduceLT, Int.reduceEq, Int.reduceAdd, ↓reduceIte, decide_true, decide_false, and_self]
        refine run_loop (fun m s => ∃ (i nx : Nat) (R : List (Nat × Tok)), i ≤ n ∧ m = n - i ∧ TxOk cs R n ∧ s = mkS [(7, .int .i64 i), (6, .own 1000 g 0 n), (5, .sl (fbytes f).length (u8s (fbytes f))), (4, .bool false), (2, .addr 2 0 0), (1, .sl T.length (txCells T))] ((2, ⟨0, 1, fCells f⟩) :: (1000, ⟨g, 1, cs⟩) :: R) nx) _ ⟨0, _, R, Nat.zero_le _, rfl, hok, rfl⟩ ?_
        clear hok hge hp
        rintro m s ⟨i, nx, R, hi, rfl, hok, rfl⟩
        have hcn : cs.length = n := hok.len
        have hRk : ∀ j T', lkT R j = some T' → (j = 2) = False ∧ (j = 1000) = False := fun j T' e => by have := hok.row j T' e; constructor <;> simp <;> omega
        by_cases hin : i < n
        · have hpos : 0 < n := by omega
          have hw : IntKind.i64.wrap ((i : Int) + 1) = ((i + 1 : Nat) : Int) := by rw [wrap_i64 (by omega)]; omega
          refine ex_run 20 ?_
          simp (maxSteps := 200000) only [hin, push_cast, List.getD_cons_zero, List.getD_cons_succ, List.take_succ_cons, List.take_zero, List.drop_succ_cons, Nat.reduceLT, Nat.reduceLeDiff, Nat.reduceEqDiff, Nat.reduceAdd, Nat.reduceMul, Nat.reduceSub, Int.reduceToNat, Int.reduceLE, Int.reduceLT, Int.reduceEq, Int.reduceAdd, ↓reduceIte, decide_true, decide_false, and_self]
          rcases hok.cell i hin with hce | ⟨gi, b, hb0, hbl, hce, hlk⟩
          · refine run_keepF (l' := [(8, .int .i64 0), (7, .int .i64 i), (6, .own 1000 g 0 n), (5, .sl (fbytes f).length (u8s (fbytes f))), (4, .bool false), (2, .addr 2 0 0), (1, .sl T.length (txCells T))]) (tl' := (2, ⟨0, 1, fCells f⟩) :: (1000, ⟨g, 1, cs⟩) :: R) (nx' := _) ⟨.refl _, .refl _, .refl _, .refl _, .refl _, .refl _, .refl _, trivial⟩ (fun j T' e => ⟨T', e, rfl, rfl, SubL.refl _⟩) (Nat.le_refl _) ?_
            refine run_loop (fun m s => ∃ nx : Nat, m = 0 ∧ s = mkS [(8, .int .i64 0), (7, .int .i64 i), (6, .own 1000 g 0 n), (5, .sl (fbytes f).length (u8s (fbytes f))), (4, .bool false), (2, .addr 2 0 0), (1, .sl T.length (txCells T))] ((2, ⟨0, 1, fCells f⟩) :: (1000, ⟨g, 1, cs⟩) :: R) nx) _ ⟨_, rfl, rfl⟩ ?_
            rintro m s ⟨nx, rfl, rfl⟩
            refine ex_run 30 ?_
            simp (maxSteps := 200000) only [hin, hpos, hce, hcn, hw, push_cast, List.getD_cons_zero, List.getD_cons_succ, List.take_succ_cons, List.take_zero, List.drop_succ_cons, Nat.reduceLT, Nat.reduceLeDiff, Nat.reduceEqDiff, Nat.reduceAdd, Nat.reduceMul, Nat.reduceSub, Int.reduceToNat, Int.reduceLE, Int.reduceLT, Int.reduceEq, Int.reduceAdd, ↓reduceIte, decide_true, decide_false, and_self]
            refine run_keepF (l' := [(7, .int .i64 ((i + 1 : Nat) : Int)), (6, .own 1000 g 0 n), (5, .sl (fbytes f).length (u8s (fbytes f))), (4, .bool false), (2, .addr 2 0 0), (1, .sl T.length (txCells T))]) (tl' := (2, ⟨0, 1, fCells f⟩) :: (1000, ⟨g, 1, cs⟩) :: R) (nx' := _) ⟨.of_eq (congrArg (AV.int .i64) (by omega)), .refl _, .refl _, .refl _, .refl _, .refl _, trivial⟩ (fun j T' e => ⟨T', e, rfl, rfl, SubL.refl _⟩) (Nat.le_refl _) (run_back ?_)
            exact ⟨n - (i + 1), by omega, i + 1, _, R, by omega, rfl, hok, rfl⟩
          · refine run_keepF (l' := [(8, .int .i64 (0 : Nat)), (7, .int .i64 i), (6, .own 1000 g 0 n), (5, .sl (fbytes f).length (u8s (fbytes f))), (4, .bool false), (2, .addr 2 0 0), (1, .sl T.length (txCells T))]) (tl' := (2, ⟨0, 1, fCells f⟩) :: (1000, ⟨g, 1, cs⟩) :: R) (nx' := _) ⟨.refl _, .refl _, .refl _, .refl _, .refl _, .refl _, .refl _, trivial⟩ (fun j T' e => ⟨T', e, rfl, rfl, SubL.refl _⟩) (Nat.le_refl _) ?_
            generalize hlen : b.length = len at *
            refine run_loop (fun m s => ∃ (k nx : Nat) (R : List (Nat × Tok)) (b : List Int), k ≤ len ∧ m = len - k ∧ TxOk cs R n ∧ b.length = len ∧ b ≠ [] ∧ lkT R (1001 + i) = some ⟨gi, 1, u8s b⟩ ∧ s = mkS [(8, .int .i64 k), (7, .int .i64 i), (6, .own 1000 g 0 n), (5, .sl (fbytes f).length (u8s (fbytes f))), (4, .bool false), (2, .addr 2 0 0), (1, .sl T.length (txCells T))] ((2, ⟨0, 1, fCells f⟩) :: (1000, ⟨g, 1, cs⟩) :: R) nx) _ ⟨0, _, R, b, Nat.zero_le _, rfl, hok, hlen, hb0, hlk, rfl⟩ ?_
            clear hok hlk hlen hb0 b hRk
            rintro m s ⟨k, nx, R, b, hk, rfl, hok, hlen, hb0, hlk, rfl⟩
            have a2 : (1001 + i = 2) = False := by simp; omega
            have a1000 : (1001 + i = 1000) = False := by simp; omega
            by_cases hkl : k < len
            · have hw : IntKind.i64.wrap ((k : Int) + 1) = ((k + 1 : Nat) : Int) := by rw [wrap_i64 (by omega)]; omega
              have hg := u8s_getD b k (by omega)
              refine ex_run 30 ?_
              simp (maxSteps := 200000) only [↓lkG_cons, hin, hpos, hce, hcn, hw, hkl, hlen, hlk, hg, a2, a1000, u8s_setF, push_cast, List.getD_cons_zero, List.getD_cons_succ, List.take_succ_cons, List.take_zero, List.drop_succ_cons, Nat.reduceLT, Nat.reduceLeDiff, Nat.reduceEqDiff, Nat.reduceAdd, Nat.reduceMul, Nat.reduceSub, Int.reduceToNat, Int.reduceLE, Int.reduceLT, Int.reduceEq, Int.reduceAdd, ↓reduceIte, decide_true, decide_false, and_self]
              refine ⟨by omega, ?_⟩
              generalize IntKind.u8.wrap (b.getD k 0 + 1) = v
              refine run_keepF (l' := [(8, .int .i64 ((k + 1 : Nat) : Int)), (7, .int .i64 i), (6, .own 1000 g 0 n), (5, .sl (fbytes f).length (u8s (fbytes f))), (4, .bool false), (2, .addr 2 0 0), (1, .sl T.length (txCells T))]) (tl' := (2, ⟨0, 1, fCells f⟩) :: (1000, ⟨g, 1, cs⟩) :: (1001 + i, ⟨gi, 1, u8s (b.set k v)⟩) :: R) (nx' := _) ⟨.of_eq (congrArg (AV.int .i64) (by omega)), .refl _, .refl _, .refl _, .refl _, .refl _, .refl _, trivial⟩ (fun j T' e => ⟨T', ?_, rfl, rfl, SubL.refl _⟩) (Nat.le_refl _) (run_back ?_)
              · rw [lkT_cons]
                by_cases hj : j = 1001 + i
                · rw [if_pos hj]
                  rw [lkT_cons, if_neg (by omega), lkT_cons, if_neg (by omega), lkT_cons, if_pos hj] at e
                  exact e
                · rw [if_neg hj]
                  rw [lkT_cons] at e ⊢
                  by_cases hj2 : j = 2
                  · rw [if_pos hj2] at e ⊢; exact e
                  · rw [if_neg hj2] at e ⊢
                    rw [lkT_cons] at e ⊢
                    by_cases hj3 : j = 1000
                    · rw [if_pos hj3] at e ⊢; exact e
                    · rw [if_neg hj3] at e ⊢
                      rw [lkT_cons, if_neg hj] at e
                      exact e
              · have hl2 : (b.set k v).length = len := by rw [List.length_set]; exact hlen
                exact ⟨len - (k + 1), by omega, k + 1, _, _, b.set k v, by omega, rfl, hok.upd hin (by rw [hlen]; exact hce) (by rw [hlen, hl2]) hb0 (by omega), hl2, fun e => hb0 (List.eq_nil_of_length_eq_zero (by rw [hlen, ← hl2, e]; rfl)), by rw [lkT_cons, if_pos rfl], rfl⟩
            · refine ex_run 30 ?_
              simp (maxSteps := 200000) only [↓lkG_cons, hin, hpos, hce, hcn, hw, hkl, hlen, hlk, a2, a1000, push_cast, List.getD_cons_zero, List.getD_cons_succ, List.take_succ_cons, List.take_zero, List.drop_succ_cons, Nat.reduceLT, Nat.reduceLeDiff, Nat.reduceEqDiff, Nat.reduceAdd, Nat.reduceMul, Nat.reduceSub, Int.reduceToNat, Int.reduceLE, Int.reduceLT, Int.reduceEq, Int.reduceAdd, ↓reduceIte, decide_true, decide_false, and_self]
              refine run_keepF (l' := [(7, .int .i64 ((i + 1 : Nat) : Int)), (6, .own 1000 g 0 n), (5, .sl (fbytes f).length (u8s (fbytes f))), (4, .bool false), (2, .addr 2 0 0), (1, .sl T.length (txCells T))]) (tl' := (2, ⟨0, 1, fCells f⟩) :: (1000, ⟨g, 1, cs⟩) :: R) (nx' := _) ⟨.of_eq (congrArg (AV.int .i64) (by omega)), .refl _, .refl _, .refl _, .refl _, .refl _, trivial⟩ (fun j T' e => ⟨T', e, rfl, rfl, SubL.refl _⟩) (Nat.le_refl _) (run_back ?_)
              exact ⟨n - (i + 1), by omega, i + 1, _, R, by omega, rfl, hok, rfl⟩
        · refine ex_run 5 ?_
          simp (maxSteps := 200000) only [hin, push_cast, List.getD_cons_zero, List.getD_cons_succ, List.take_succ_cons, List.take_zero, List.drop_succ_cons, Nat.reduceLT, Nat.reduceLeDiff, Nat.reduceEqDiff, Nat.reduceAdd, Nat.reduceMul, Nat.reduceSub, Int.reduceToNat, Int.reduceLE, Int.reduceLT, Int.reduceEq, Int.reduceAdd, ↓reduceIte, decide_true, decide_false, and_self]
          refine run_keepF (l' := [(5, .sl (fbytes f).length (u8s (fbytes f))), (4, .bool false), (2, .addr 2 0 0), (1, .sl T.length (txCells T))]) (tl' := [(2, ⟨0, 1, fCells f⟩)]) (nx' := _) ⟨.refl _, .refl _, .refl _, .refl _, trivial⟩ (fun j T' e => ?_) (Nat.le_refl _) ?_
          · obtain ⟨e1, e2⟩ := lkT_one e
            subst e1; subst e2
            exact ⟨_, rfl, rfl, rfl, SubL.refl _⟩
          generalize nx + 4 = nxa
          refine run_join22 (fun nx : Nat => mkS [(5, .sl (fbytes f).length (u8s (fbytes f))), (4, .bool false), (2, .addr 2 0 0), (1, .sl T.length (txCells T))] [(2, ⟨0, 1, fCells f⟩)] nx) (fun hk => ?_) (fun nx => ?_)
          · have hsum : sumT T ≤ 50 * (1048576 + 1) := by
              have := sumT_bound (B := 1048576) (T := T) fun t ht => (hT t ht).2
              exact Nat.le_trans this (Nat.mul_le_mul_right _ (by omega))
            have hfw := fbytes_with f T
            have hW := With_c f T hF (fun t ht => ⟨(hT t ht).1, by have := (hT t ht).2; omega⟩) (by omega) (by omega) (by omega) (fun s hs => by have := h3 s hs; omega) (by omega) (fun _ => by omega)
            cases hm : mayW f T with
            | false =>
              unfold withR at hW
              rw [hm, if_neg (by simp)] at hW
              refine ex_run 7 ?_
              simp (maxSteps := 200000) only [fCells, hcl, hct, push_cast, List.getD_cons_zero, List.getD_cons_succ, List.take_succ_cons, List.take_zero, List.drop_succ_cons, Nat.reduceLT, Nat.reduceLeDiff, Nat.reduceEqDiff, Nat.reduceAdd, Nat.reduceMul, Nat.reduceSub, Int.reduceToNat, Int.reduceLE, Int.reduceLT, Int.reduceEq, Int.reduceAdd, ↓reduceIte, decide_true, decide_false, and_self]
              refine call_intro hW (fun h => by cases h) ?_
              simp (maxSteps := 200000) only [fCells, zeroF, u8s_nil, subCells_nil, List.length_nil, hcl, hct, push_cast, List.getD_cons_zero, List.getD_cons_succ, List.take_succ_cons, List.take_zero, List.drop_succ_cons, Nat.reduceLT, Nat.reduceLeDiff, Nat.reduceEqDiff, Nat.reduceAdd, Nat.reduceMul, Nat.reduceSub, Int.reduceToNat, Int.reduceLE, Int.reduceLT, Int.reduceEq, Int.reduceAdd, ↓reduceIte, decide_true, decide_false, and_self]
              exact run_keep (l' := [(5, .sl (fbytes f).length (u8s (fbytes f))), (4, .bool false), (2, .addr 2 0 0), (1, .sl T.length (txCells T))]) (t' := [(2, ⟨0, 1, fCells f⟩)]) (nx' := _) ⟨.refl _, .refl _, .refl _, .refl _, trivial⟩ ⟨⟨_, rfl, rfl, rfl, SubL.refl _⟩, trivial⟩ (Nat.le_refl _) (hk _)
            | true =>
              by_cases hz : List.isPrefixOf [48, 48] f.tag = true ∨ f.subs = []
              · have hs0 := with_nosubs hm hz
                unfold withR at hW
                rw [hm, if_pos rfl] at hW
                generalize withF f T = G at *
                obtain ⟨gt, gx, g0, g1, gs⟩ := G
                simp only at hs0
                subst hs0
                refine ex_run 30 ?_
                simp (maxSteps := 200000) only [fCells, hcl, hct, push_cast, List.getD_cons_zero, List.getD_cons_succ, List.take_succ_cons, List.take_zero, List.drop_succ_cons, Nat.reduceLT, Nat.reduceLeDiff, Nat.reduceEqDiff, Nat.reduceAdd, Nat.reduceMul, Nat.reduceSub, Int.reduceToNat, Int.reduceLE, Int.reduceLT, Int.reduceEq, Int.reduceAdd, ↓reduceIte, decide_true, decide_false, and_self]
                refine call_intro hW (fun h => by cases h) ?_
                simp (maxSteps := 200000) only [fCells, u8s_nil, subCells_nil, List.length_nil, hcl, hct, push_cast, List.getD_cons_zero, List.getD_cons_succ, List.take_succ_cons, List.take_zero, List.drop_succ_cons, Nat.reduceLT, Nat.reduceLeDiff, Nat.reduceEqDiff, Nat.reduceAdd, Nat.reduceMul, Nat.reduceSub, Int.reduceToNat, Int.reduceLE, Int.reduceLT, Int.reduceEq, Int.reduceAdd, ↓reduceIte, decide_true, decide_false, and_self]
                generalize nxa + 1 + 1 + 1 + 1 + 1 + 1 = g9
                refine run_keep (l' := [(11, .int .i64 0), (9, .addr 9 g9 0), (5, .sl (fbytes f).length (u8s (fbytes f))), (4, .bool false), (2, .addr 2 0 0), (1, .sl T.length (txCells T))]) (t' := [(9, ⟨g9, 1, [.str gt, .sl gx.length (u8s gx), .int .u8 g0, .int .u8 g1, .sl 0 []]⟩), (2, ⟨0, 1, fCells f⟩)]) (nx' := _) ⟨.refl _, .refl _, .refl _, .refl _, .refl _, .refl _, trivial⟩ ⟨⟨_, rfl, rfl, rfl, SubL.refl _⟩, ⟨_, rfl, rfl, rfl, SubL.refl _⟩, trivial⟩ (Nat.le_refl _) ?_
                refine run_loop (fun m s => ∃ nx : Nat, m = 0 ∧ s = mkS [(11, .int .i64 0), (9, .addr 9 g9 0), (5, .sl (fbytes f).length (u8s (fbytes f))), (4, .bool false), (2, .addr 2 0 0), (1, .sl T.length (txCells T))] [(9, ⟨g9, 1, [.str gt, .sl gx.length (u8s gx), .int .u8 g0, .int .u8 g1, .sl 0 []]⟩), (2, ⟨0, 1, fCells f⟩)] nx) _ ⟨_, rfl, rfl⟩ ?_
                rintro m s ⟨nx, rfl, rfl⟩
                refine ex_run 5 ?_
                simp (maxSteps := 200000) only [push_cast, List.getD_cons_zero, List.getD_cons_succ, List.take_succ_cons, List.take_zero, List.drop_succ_cons, Nat.reduceLT, Nat.reduceLeDiff, Nat.reduceEqDiff, Nat.reduceAdd, Nat.reduceMul, Nat.reduceSub, Int.reduceToNat, Int.reduceLE, Int.reduceLT, Int.reduceEq, Int.reduceAdd, ↓reduceIte, decide_true, decide_false, and_self]
                exact run_keep (l' := [(5, .sl (fbytes f).length (u8s (fbytes f))), (4, .bool false), (2, .addr 2 0 0), (1, .sl T.length (txCells T))]) (t' := [(2, ⟨0, 1, fCells f⟩)]) (nx' := _) ⟨.refl _, .refl _, .refl _, .refl _, trivial⟩ ⟨⟨_, rfl, rfl, rfl, SubL.refl _⟩, trivial⟩ (Nat.le_refl _) (hk _)
              · have hg : goodF (withF f T) = true := by unfold mayW at hm; rw [Bool.and_eq_true] at hm; exact hm.2
                have hlen : T.length = (textsOf f).length := by unfold mayW at hm; rw [Bool.and_eq_true] at hm; exact of_decide_eq_true hm.1
                have hcf : List.isPrefixOf [48, 48] f.tag = false := by cases h : List.isPrefixOf [48, 48] f.tag with | false => rfl | true => exact absurd (.inl h) hz
                have hK := With_k f T hF (fun t ht => ⟨(hT t ht).1, by have := (hT t ht).2; omega⟩) (by omega) (by omega) (by omega) (fun s hs => by have := h3 s hs; omega) (by omega) (by omega) hlen hcf (fun h => hz (.inr h)) hg
                refine ex_run 30 ?_
                simp (maxSteps := 200000) only [fCells, hcl, hct, push_cast, List.getD_cons_zero, List.getD_cons_succ, List.take_succ_cons, List.take_zero, List.drop_succ_cons, Nat.reduceLT, Nat.reduceLeDiff, Nat.reduceEqDiff, Nat.reduceAdd, Nat.reduceMul, Nat.reduceSub, Int.reduceToNat, Int.reduceLE, Int.reduceLT, Int.reduceEq, Int.reduceAdd, ↓reduceIte, decide_true, decide_false, and_self]
                refine call_intro hK (fun h => by cases h) ?_
                simp (maxSteps := 200000) only [fCells, hcl, hct, push_cast, List.getD_cons_zero, List.getD_cons_succ, List.take_succ_cons, List.take_zero, List.drop_succ_cons, Nat.reduceLT, Nat.reduceLeDiff, Nat.reduceEqDiff, Nat.reduceAdd, Nat.reduceMul, Nat.reduceSub, Int.reduceToNat, Int.reduceLE, Int.reduceLT, Int.reduceEq, Int.reduceAdd, ↓reduceIte, decide_true, decide_false, and_self]
                have hwl : (subCells (wsubs f.subs T f.subs.length)).length = f.subs.length * 2 := by
                  have hTe : (textsOf f).length = f.subs.length := by unfold textsOf; rw [if_neg (by show ¬ ctl f.tag = true; unfold ctl; rw [hcf]; simp), List.length_map]
                  rw [subCells_length, wsubs_length f.subs T (by omega)]
                generalize subCells (wsubs f.subs T f.subs.length) = C at *
                generalize nxa + 1 + 1 + 1 + 1 + 1 + 1 = g9
                generalize nxa + 1 + 1 = g58
                refine run_keep (l' := [(11, .int .i64 0), (9, .addr 9 g9 0), (5, .sl (fbytes f).length (u8s (fbytes f))), (4, .bool false), (2, .addr 2 0 0), (1, .sl T.length (txCells T))]) (t' := [(9, ⟨g9, 1, [.str f.tag, .sl f.text.length (u8s f.text), .int .u8 f.i0, .int .u8 f.i1, .own 58 g58 0 f.subs.length]⟩), (58, ⟨g58, 2, C⟩), (2, ⟨0, 1, fCells f⟩)]) (nx' := _) ⟨.refl _, .refl _, .refl _, .refl _, .refl _, .refl _, trivial⟩ ⟨⟨_, rfl, rfl, rfl, SubL.refl _⟩, ⟨_, rfl, rfl, rfl, SubL.refl _⟩, ⟨_, rfl, rfl, rfl, SubL.refl _⟩, trivial⟩ (Nat.le_refl _) ?_
                refine run_loop (fun m s => ∃ (i nx : Nat) (C : List AV), i ≤ f.subs.length ∧ m = f.subs.length - i ∧ C.length = f.subs.length * 2 ∧ s = mkS [(11, .int .i64 i), (9, .addr 9 g9 0), (5, .sl (fbytes f).length (u8s (fbytes f))), (4, .bool false), (2, .addr 2 0 0), (1, .sl T.length (txCells T))] [(9, ⟨g9, 1, [.str f.tag, .sl f.text.length (u8s f.text), .int .u8 f.i0, .int .u8 f.i1, .own 58 g58 0 f.subs.length]⟩), (58, ⟨g58, 2, C⟩), (2, ⟨0, 1, fCells f⟩)] nx) _ ⟨0, _, C, Nat.zero_le _, rfl, hwl, rfl⟩ ?_
                clear hK hwl
                rintro m s ⟨i, nx, C, hi, rfl, hCl, rfl⟩
                by_cases hin : i < f.subs.length
                · have hpos : 0 < f.subs.length * 2 := by omega
                  have l0 : i * 2 < f.subs.length * 2 := by omega
                  have hw : IntKind.i64.wrap ((i : Int) + 1) = ((i + 1 : Nat) : Int) := by rw [wrap_i64 (by omega)]; omega
                  refine ex_run 30 ?_
                  simp (maxSteps := 200000) only [hin, hpos, hCl, hw, l0, push_cast, List.getD_cons_zero, List.getD_cons_succ, List.take_succ_cons, List.take_zero, List.drop_succ_cons, Nat.reduceLT, Nat.reduceLeDiff, Nat.reduceEqDiff, Nat.reduceAdd, Nat.reduceMul, Nat.reduceSub, Int.reduceToNat, Int.reduceLE, Int.reduceLT, Int.reduceEq, Int.reduceAdd, ↓reduceIte, decide_true, decide_false, and_self]
                  refine ⟨by omega, ?_⟩
                  refine run_back_le (le_mk (l' := [(11, .int .i64 ((i + 1 : Nat) : Int)), (9, .addr 9 g9 0), (5, .sl (fbytes f).length (u8s (fbytes f))), (4, .bool false), (2, .addr 2 0 0), (1, .sl T.length (txCells T))]) (t' := [(9, ⟨g9, 1, [.str f.tag, .sl f.text.length (u8s f.text), .int .u8 f.i0, .int .u8 f.i1, .own 58 g58 0 f.subs.length]⟩), (58, ⟨g58, 2, C.set (i * 2) (AV.int IntKind.u8 126)⟩), (2, ⟨0, 1, fCells f⟩)]) (nx' := _) ⟨.of_eq (congrArg (AV.int .i64) (by omega)), .refl _, .refl _, .refl _, .refl _, .refl _, trivial⟩ ⟨⟨_, rfl, rfl, rfl, SubL.refl _⟩, ⟨_, rfl, rfl, rfl, SubL.refl _⟩, ⟨_, rfl, rfl, rfl, SubL.refl _⟩, trivial⟩ (Nat.le_refl _)) ?_
                  exact ⟨f.subs.length - (i + 1), by omega, i + 1, _, _, by omega, rfl, by rw [List.length_set]; exact hCl, rfl⟩
                · refine ex_run 5 ?_
                  simp (maxSteps := 200000) only [hin, push_cast, List.getD_cons_zero, List.getD_cons_succ, List.take_succ_cons, List.take_zero, List.drop_succ_cons, Nat.reduceLT, Nat.reduceLeDiff, Nat.reduceEqDiff, Nat.reduceAdd, Nat.reduceMul, Nat.reduceSub, Int.reduceToNat, Int.reduceLE, Int.reduceLT, Int.reduceEq, Int.reduceAdd, ↓reduceIte, decide_true, decide_false, and_self]
                  exact run_keep (l' := [(5, .sl (fbytes f).length (u8s (fbytes f))), (4, .bool false), (2, .addr 2 0 0), (1, .sl T.length (txCells T))]) (t' := [(2, ⟨0, 1, fCells f⟩)]) (nx' := _) ⟨.refl _, .refl _, .refl _, .refl _, trivial⟩ ⟨⟨_, rfl, rfl, rfl, SubL.refl _⟩, trivial⟩ (Nat.le_refl _) (hk _)
          · refine ex_run 30 ?_
            simp (maxSteps := 200000) only [fCells, hcl, push_cast, List.getD_cons_zero, List.getD_cons_succ, List.take_succ_cons, List.take_zero, List.drop_succ_cons, Nat.reduceLT, Nat.reduceLeDiff, Nat.reduceEqDiff, Nat.reduceAdd, Nat.reduceMul, Nat.reduceSub, Int.reduceToNat, Int.reduceLE, Int.reduceLT, Int.reduceEq, Int.reduceAdd, ↓reduceIte, decide_true, decide_false, and_self]
            refine call_intro answers21_c (fun h => by cases h) ?_
            simp (maxSteps := 200000) only [fCells, hcl, push_cast, List.getD_cons_zero, List.getD_cons_succ, List.take_succ_cons, List.take_zero, List.drop_succ_cons, Nat.reduceLT, Nat.reduceLeDiff, Nat.reduceEqDiff, Nat.reduceAdd, Nat.reduceMul, Nat.reduceSub, Int.reduceToNat, Int.reduceLE, Int.reduceLT, Int.reduceEq, Int.reduceAdd, ↓reduceIte, decide_true, decide_false, and_self]
            refine call_intro (rbytes_s f (by omega) (by omega)) (fun h => by cases h) ?_
            simp (maxSteps := 200000) only [fCells, hcl, push_cast, List.getD_cons_zero, List.getD_cons_succ, List.take_succ_cons, List.take_zero, List.drop_succ_cons, Nat.reduceLT, Nat.reduceLeDiff, Nat.reduceEqDiff, Nat.reduceAdd, Nat.reduceMul, Nat.reduceSub, Int.reduceToNat, Int.reduceLE, Int.reduceLT, Int.reduceEq, Int.reduceAdd, ↓reduceIte, decide_true, decide_false, and_self]
            refine call_intro (same_c (fbytes f) (fbytes f) (by omega)) (fun _ => ⟨rfl, fun T0 h => by cases h⟩) ?_
            rw [beq_self_eq_true]
            simp (maxSteps := 200000) only [fCells, hcl, push_cast, List.getD_cons_zero, List.getD_cons_succ, List.take_succ_cons, List.take_zero, List.drop_succ_cons, Nat.reduceLT, Nat.reduceLeDiff, Nat.reduceEqDiff, Nat.reduceAdd, Nat.reduceMul, Nat.reduceSub, Int.reduceToNat, Int.reduceLE, Int.reduceLT, Int.reduceEq, Int.reduceAdd, ↓reduceIte, decide_true, decide_false, and_self]
            exact ⟨_, _, rfl, rfl, .refl _, rfl⟩
  · rw [decide_eq_false hsm]
    simp (maxSteps := 200000) only [push_cast, List.getD_cons_zero, List.getD_cons_succ, List.take_succ_cons, List.take_zero, List.drop_succ_cons, Nat.reduceLT, Nat.reduceLeDiff, Nat.reduceEqDiff, Nat.reduceAdd, Nat.reduceMul, Nat.reduceSub, Int.reduceToNat, Int.reduceLE, Int.reduceLT, Int.reduceEq, Int.reduceAdd, ↓reduceIte, decide_true, decide_false, and_self]
    refine ex_run 20 ?_
    simp (maxSteps := 200000) only [push_cast, List.getD_cons_zero, List.getD_cons_succ, List.take_succ_cons, List.take_zero, List.drop_succ_cons, Nat.reduceLT, Nat.reduceLeDiff, Nat.reduceEqDiff, Nat.reduceAdd, Nat.reduceMul, Nat.reduceSub, Int.reduceToNat, Int.reduceLE, Int.reduceLT, Int.reduceEq, Int.reduceAdd, ↓reduceIte, decide_true, decide_false, and_self]
    refine call_intro answers21_c (fun h => by cases h) ?_
    simp (maxSteps := 200000) only [push_cast, List.getD_cons_zero, List.getD_cons_succ, List.take_succ_cons, List.take_zero, List.drop_succ_cons, Nat.reduceLT, Nat.reduceLeDiff, Nat.reduceEqDiff, Nat.reduceAdd, Nat.reduceMul, Nat.reduceSub, Int.reduceToNat, Int.reduceLE, Int.reduceLT, Int.reduceEq, Int.reduceAdd, ↓reduceIte, decide_true, decide_false, and_self]
    exact ⟨_, _, rfl, rfl, .refl _, rfl⟩
end Go.Proofs.Yteapibifebnboaa
