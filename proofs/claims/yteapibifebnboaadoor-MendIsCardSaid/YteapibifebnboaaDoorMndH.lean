/- mend.subs -/
import Derived.Test.YteapibifebnboaaDoorMndG
set_option linter.unusedVariables false
set_option linter.unusedSimpArgs false
namespace Go.Proofs.YteapibifebnboaaDoor
open Go Go.Eng
/-- The subfield of a part. -/
def subOf (p : List Int) : List SubV := match p with
  | [] => []
  | x :: t => if codeB x = true then [(x, t)] else [(97, x :: t)]
def subHd (p : List Int) : List SubV := if p = [] then [] else [(97, p)]
/-- Subfields of what stands behind indicators. -/
def subsM (b : List Int) : List SubV := subHd ((splitL 31 b).headD []) ++ (splitL 31 b).tail.flatMap subOf
theorem txCells_eq (T : List (List Int)) (i : Nat) (h : i < T.length) : (txCells T).getD i .dead = .sl (T.getD i []).length (u8s (T.getD i [])) := by
  rw [txCells_get T i h, List.getD_eq_getElem?_getD, List.getElem?_eq_getElem h]; rfl
theorem splitL_in {c : Int} {l : List Int} (hl : inB l) : ∀ p ∈ splitL c l, inB p := by
  induction l with
  | nil => intro p hp; simp [splitL] at hp; subst hp; intro x hx; cases hx
  | cons x t ih =>
    have ih := ih fun y hy => hl y (List.mem_cons_of_mem _ hy)
    intro p hp
    unfold splitL at hp
    split at hp
    · rcases List.mem_cons.1 hp with rfl | h
      · intro y hy; cases hy
      · exact ih p h
    · split at hp
      · simp at hp; subst hp; intro y hy; simp at hy; subst hy; exact hl _ (List.mem_cons_self ..)
      · rename_i q qs e
        rw [e] at ih
        rcases List.mem_cons.1 hp with rfl | h
        · intro y hy
          rcases List.mem_cons.1 hy with rfl | hy
          · exact hl _ (List.mem_cons_self ..)
          · exact ih q (List.mem_cons_self ..) y hy
        · exact ih p (List.mem_cons_of_mem _ h)
theorem splitL_sum {c : Int} (l : List Int) : ((splitL c l).map (·.length)).sum + l.count c = l.length := by
  induction l with
  | nil => rfl
  | cons x t ih =>
    unfold splitL
    by_cases h : x = c
    · rw [if_pos h, h, List.count_cons_self, List.map_cons, List.sum_cons, List.length_cons, List.length_nil]; omega
    · rw [if_neg h, List.count_cons_of_ne h]
      split
      · rename_i e; exact absurd e (splitL_ne c t)
      · rename_i e
        rw [e, List.map_cons, List.sum_cons] at ih
        rw [List.map_cons, List.sum_cons, List.length_cons, List.length_cons]; omega
theorem frz_one {t g n : Nat} {L : List AV} (h : L.length = n) : Frz t ⟨g, 1, L⟩ (.own t g 0 n) (.sl n L) := by
  have := Frz.own (t := t) (T := ⟨g, 1, L⟩) 0 n (by show 0 + n * 1 ≤ L.length; omega)
  have e : (L.drop 0).take (n * 1) = L := List.take_of_length_le (by rw [List.drop_zero]; omega)
  rw [show ((⟨g, 1, L⟩ : Tok).cs.drop 0).take (n * (⟨g, 1, L⟩ : Tok).sz) = L from e] at this
  exact this
theorem subOf_len (p : List Int) : (subOf p).length ≤ 1 := by
  unfold subOf
  split
  · simp
  · split <;> simp
theorem subHd_len (p : List Int) : (subHd p).length ≤ 1 := by unfold subHd; split <;> simp
theorem flat_len : ∀ T : List (List Int), (T.flatMap subOf).length ≤ T.length
  | [] => Nat.le_refl _
  | p :: T => by
    have := flat_len T
    have := subOf_len p
    rw [List.flatMap_cons, List.length_append, List.length_cons]; omega
/-- Where ways meet. -/
theorem run_join {P : Program} {N : Nat} {α : Type} {A rest : Code} {k : List It} {Q : AS → Prop} {s : AS} (S : α → AS) (h1 : (∀ a, Run P N (.code rest :: k) Q (S a)) → Run P N (.code (A.seq rest) :: k) Q s)
    (h2 : ∀ a, Run P N (.code rest :: k) Q (S a)) : Run P N (.code (A.seq rest) :: k) Q s := h1 h2
set_option maxRecDepth 100000 in
set_option maxHeartbeats 4000000 in
theorem subs_c (b : List Int) (hl : inB b) (hn : b.length ≤ 1099511627776) :
    ACall Tryd.prog 47 [.sl b.length (u8s b)] (.sl (subsM b).length (subCells (subsM b))) none := by
  have hne := splitL_ne 31 b
  have hsl := splitL_len 31 b
  have hcb : b.count 31 ≤ b.length := List.count_le_length
  have hsp := Split_c b 31 hl hn (by decide)
  have hin := splitL_in (c := 31) hl
  refine acall_intro none Tryd.func47 rfl (by kernel_rfl) (by simp [Tryd.f47]) ?_
  refine ex_run 3 ?_
  simp (maxSteps := 200000) only [Tryd.f47, push_cast, List.getD_cons_zero, List.getD_cons_succ, List.take_succ_cons, List.take_zero, List.drop_succ_cons, Nat.reduceLT, Nat.reduceLeDiff, Nat.reduceEqDiff, Nat.reduceAdd, Nat.reduceMul, Nat.reduceSub, Int.reduceToNat, Int.reduceLE, Int.reduceLT, Int.reduceEq, Int.reduceAdd, ↓reduceIte, decide_true, decide_false, and_self]
  refine run_region_cut 2 (by decide) ?_
  simp (maxSteps := 200000) only [List.toList_toArray, push_cast, List.getD_cons_zero, List.getD_cons_succ, List.take_succ_cons, List.take_zero, List.drop_succ_cons, Nat.reduceLT, Nat.reduceLeDiff, Nat.reduceEqDiff, Nat.reduceAdd, Nat.reduceMul, Nat.reduceSub, Int.reduceToNat, Int.reduceLE, Int.reduceLT, Int.reduceEq, Int.reduceAdd, ↓reduceIte, decide_true, decide_false, and_self]
  refine ⟨mkS [(8, .sl 1 [.int .u8 31]), (7, .sl b.length (u8s b)), (2, .nilS), (0, .sl b.length (u8s b))] [] _,
    freeze_leU 8 ⟨_, 1, [.int .u8 31]⟩ rfl ⟨frz_own 8 _ [31], .keep _, .keep _, .keep _, trivial⟩ trivial, rfl, ?_⟩
  simp (maxSteps := 200000) only [List.toList_toArray, push_cast, List.getD_cons_zero, List.getD_cons_succ, List.take_succ_cons, List.take_zero, List.drop_succ_cons, Nat.reduceLT, Nat.reduceLeDiff, Nat.reduceEqDiff, Nat.reduceAdd, Nat.reduceMul, Nat.reduceSub, Int.reduceToNat, Int.reduceLE, Int.reduceLT, Int.reduceEq, Int.reduceAdd, ↓reduceIte, decide_true, decide_false, and_self]
  refine call_intro hsp (fun h => by cases h) ?_
  unfold subsM
  generalize splitL 31 b = T at *
  obtain ⟨p0, ps, rfl⟩ : ∃ p0 ps, T = p0 :: ps := by
    cases T with
    | nil => exact absurd rfl hne
    | cons p0 ps => exact ⟨p0, ps, rfl⟩
  have hC0 : (txCells (p0 :: ps)).getD 0 .dead = .sl p0.length (u8s p0) := rfl
  have hC1 : (txCells (p0 :: ps)).drop 1 = txCells ps := rfl
  have hCl : (txCells (p0 :: ps)).length = ps.length + 1 := by rw [txCells_length]; rfl
  have hpl := txCells_length ps
  simp only [List.headD_cons, List.tail_cons, List.length_cons] at hsl ⊢
  have hps : ps.length ≤ 1099511627776 := by omega
  generalize txCells (p0 :: ps) = C at *
  simp (maxSteps := 200000) only [push_cast, List.getD_cons_zero, List.getD_cons_succ, List.take_succ_cons, List.take_zero, List.drop_succ_cons, Nat.reduceLT, Nat.reduceLeDiff, Nat.reduceEqDiff, Nat.reduceAdd, Nat.reduceMul, Nat.reduceSub, Int.reduceToNat, Int.reduceLE, Int.reduceLT, Int.reduceEq, Int.reduceAdd, ↓reduceIte, decide_true, decide_false, and_self]
  refine Go.Eng.run_freeze (l' := [(3, .sl (ps.length + 1) C), (2, .nilS), (0, .sl b.length (u8s b))]) (tl' := []) 9 ⟨3, 1, C⟩ rfl ⟨frz_one hCl, .keep _, .keep _, trivial⟩ trivial ?_
  refine ex_run 2 ?_
  simp (maxSteps := 200000) only [push_cast, List.getD_cons_zero, List.getD_cons_succ, List.take_succ_cons, List.take_zero, List.drop_succ_cons, Nat.reduceLT, Nat.reduceLeDiff, Nat.reduceEqDiff, Nat.reduceAdd, Nat.reduceMul, Nat.reduceSub, Int.reduceToNat, Int.reduceLE, Int.reduceLT, Int.reduceEq, Int.reduceAdd, ↓reduceIte, decide_true, decide_false, and_self]
  refine run_lazy 4 100 2 rfl ?_
  refine run_join (fun q : Nat × Nat => mkS [(3, .sl (ps.length + 1) C), (4, .own 100 q.1 0 (subHd p0).length)] [(100, ⟨q.1, 2, subCells (subHd p0)⟩)] q.2) (fun h => ?_) ?_
  · have hC1l : 0 < C.length := by omega
    by_cases h0 : p0 = []
    · subst h0
      have e : subHd [] = [] := rfl
      rw [e] at h
      refine ex_run 5 ?_
      simp (maxSteps := 200000) only [hC0, hC1l, push_cast, List.getD_cons_zero, List.getD_cons_succ, List.take_succ_cons, List.take_zero, List.drop_succ_cons, Nat.reduceLT, Nat.reduceLeDiff, Nat.reduceEqDiff, Nat.reduceAdd, Nat.reduceMul, Nat.reduceSub, Int.reduceToNat, Int.reduceLE, Int.reduceLT, Int.reduceEq, Int.reduceAdd, ↓reduceIte, decide_true, decide_false, and_self]
      refine ⟨by omega, ?_⟩
      refine run_keep (l' := [(3, .sl (ps.length + 1) C), (4, .own 100 6 0 0)]) (t' := [(100, ⟨6, 2, []⟩)]) (nx' := _) ⟨.refl _, .refl _, trivial⟩ ⟨⟨_, rfl, rfl, rfl, SubL.refl _⟩, trivial⟩ (Nat.le_refl _) ?_
      exact h (6, _)
    · have h0l : 0 < p0.length := by cases p0 with | nil => exact absurd rfl h0 | cons x t => simp
      have h0' : 0 < (p0.length : Int) := by omega
      have hcl0 : closedL (u8s p0) = true := u8s_closed _
      refine ex_run 5 ?_
      simp (maxSteps := 200000) only [hC0, hC1l, h0', h0l, hcl0, push_cast, List.getD_cons_zero, List.getD_cons_succ, List.take_succ_cons, List.take_zero, List.drop_succ_cons, Nat.reduceLT, Nat.reduceLeDiff, Nat.reduceEqDiff, Nat.reduceAdd, Nat.reduceMul, Nat.reduceSub, Int.reduceToNat, Int.reduceLE, Int.reduceLT, Int.reduceEq, Int.reduceAdd, ↓reduceIte, decide_true, decide_false, and_self]
      refine ⟨by omega, by omega, ?_⟩
      have e : subHd p0 = [(97, p0)] := if_neg h0
      refine run_keep (l' := [(3, .sl (ps.length + 1) C), (4, .own 100 18 0 (subHd p0).length)]) (t' := [(100, ⟨18, 2, subCells (subHd p0)⟩)]) (nx' := 20) ⟨.refl _, .of_eq (by rw [e]; rfl), trivial⟩ ⟨⟨_, rfl, rfl, rfl, by rw [e]; exact SubL.refl _⟩, trivial⟩ (Nat.le_refl _) ?_
      exact h (18, 20)
  · rintro ⟨g, nx⟩
    have hC1l : 1 ≤ C.length := by omega
    have htk : List.take (ps.length + 1) C = C := List.take_of_length_le (by omega)
    have hz : (ps.length : Int) + 1 - 1 = (ps.length : Int) := by omega
    have hpc := txCells_closed ps
    refine ex_run 10 ?_
    simp (maxSteps := 200000) only [hC1l, hC1, htk, hz, Nat.add_sub_cancel, push_cast, List.getD_cons_zero, List.getD_cons_succ, List.take_succ_cons, List.take_zero, List.drop_succ_cons, Nat.reduceLT, Nat.reduceLeDiff, Nat.reduceEqDiff, Nat.reduceAdd, Nat.reduceMul, Nat.reduceSub, Int.reduceToNat, Int.reduceLE, Int.reduceLT, Int.reduceEq, Int.reduceAdd, ↓reduceIte, decide_true, decide_false, and_self]
    refine ⟨hCl, by omega, ?_⟩
    refine run_keep (l' := [(23, .sl ps.length (txCells ps)), (24, .int .i64 ps.length), (25, .int .i64 0), (4, .own 100 g 0 (subHd p0 ++ (ps.take 0).flatMap subOf).length)]) (t' := [(100, ⟨g, 2, subCells (subHd p0 ++ (ps.take 0).flatMap subOf)⟩)]) (nx' := _) ⟨.refl _, .refl _, .refl _, .of_eq (congrArg (AV.own 100 g 0) (by simp)), trivial⟩ ⟨⟨_, rfl, rfl, rfl, by rw [List.take_zero, List.flatMap_nil, List.append_nil]; exact SubL.refl _⟩, trivial⟩ (Nat.le_refl _) ?_
    refine run_loop (fun n s => ∃ (i g nx : Nat), i ≤ ps.length ∧ n = ps.length - i ∧ s = mkS [(23, .sl ps.length (txCells ps)), (24, .int .i64 ps.length), (25, .int .i64 i), (4, .own 100 g 0 (subHd p0 ++ (ps.take i).flatMap subOf).length)] [(100, ⟨g, 2, subCells (subHd p0 ++ (ps.take i).flatMap subOf)⟩)] nx) _ ⟨0, _, _, Nat.zero_le _, rfl, rfl⟩ ?_
    rintro n s ⟨i, g, nx, hi, rfl, rfl⟩
    by_cases h : i < ps.length
    · have h' : (i : Int) < (ps.length : Int) := by omega
      have hw : IntKind.i64.wrap ((i : Int) + 1) = ((i + 1 : Nat) : Int) := by rw [wrap_i64 (by omega)]; omega
      have hg := txCells_get ps i h
      have hps' : i < (txCells ps).length := by omega
      have hin' : inB ps[i] := hin _ (List.mem_cons_of_mem _ (List.getElem_mem h))
      have hsn : (ps.take (i + 1)).flatMap subOf = (ps.take i).flatMap subOf ++ subOf ps[i] := by
        rw [List.take_add_one, List.getElem?_eq_getElem h, List.flatMap_append]; simp
      generalize ps[i] = p at *
      have hA : subHd p0 ++ (ps.take (i + 1)).flatMap subOf = (subHd p0 ++ (ps.take i).flatMap subOf) ++ subOf p := by rw [hsn, List.append_assoc]
      have hAl := subCells_length (subHd p0 ++ (ps.take i).flatMap subOf)
      have hAb : (subHd p0 ++ (ps.take i).flatMap subOf).length ≤ 1 + i := by
        have h1 := flat_len (ps.take i)
        have h2 := subHd_len p0
        rw [List.length_take] at h1
        rw [List.length_append]; omega
      generalize subHd p0 ++ (ps.take i).flatMap subOf = A at *
      rcases p with _ | ⟨x, t⟩
      · rw [show subOf [] = [] from rfl, List.append_nil] at hA
        refine ex_run 60 ?_
        simp (maxSteps := 200000) only [h, h', hg, hps', hw, List.length_nil, u8s_nil, push_cast, List.getD_cons_zero, List.getD_cons_succ, List.take_succ_cons, List.take_zero, List.drop_succ_cons, Nat.reduceLT, Nat.reduceLeDiff, Nat.reduceEqDiff, Nat.reduceAdd, Nat.reduceMul, Nat.reduceSub, Int.reduceToNat, Int.reduceLE, Int.reduceLT, Int.reduceEq, Int.reduceAdd, ↓reduceIte, decide_true, decide_false, and_self]
        refine ⟨by omega, ?_⟩
        refine run_back_le (le_mk (l' := [(23, .sl ps.length (txCells ps)), (24, .int .i64 ps.length), (25, .int .i64 ((i + 1 : Nat) : Int)), (4, .own 100 g 0 A.length)]) (t' := [(100, ⟨g, 2, subCells A⟩)]) (nx' := _) ⟨.refl _, .refl _, .of_eq (congrArg (AV.int .i64) (by omega)), .refl _, trivial⟩ ⟨⟨_, rfl, rfl, rfl, SubL.refl _⟩, trivial⟩ (Nat.le_refl _)) ?_
        exact ⟨ps.length - (i + 1), by omega, i + 1, _, _, by omega, rfl, by rw [hA]⟩
      · have hne : ¬ (t.length : Int) + 1 = 0 := by omega
        have hps0 : 0 < (txCells ps).length := by omega
        have hx0 : (u8s (x :: t)).getD 0 .dead = .int .u8 x := rfl
        have hxl : (u8s (x :: t)).length = t.length + 1 := by rw [u8s_length]; rfl
        have hxd : (u8s (x :: t)).drop 1 = u8s t := rfl
        have hxt : (u8s (x :: t)).take (t.length + 1) = u8s (x :: t) := List.take_of_length_le (by omega)
        have hxc := u8s_closed (x :: t)
        have htc := u8s_closed t
        rw [List.length_cons] at hg
        generalize hX : u8s (x :: t) = X at *
        refine ex_run 60 ?_
        simp (maxSteps := 200000) only [h, h', hg, hps', hps0, Nat.zero_lt_succ, hw, hne, hx0, hxl, hxd, hxt, hxc, htc, push_cast, List.getD_cons_zero, List.getD_cons_succ, List.take_succ_cons, List.take_zero, List.drop_succ_cons, Nat.reduceLT, Nat.reduceLeDiff, Nat.reduceEqDiff, Nat.reduceAdd, Nat.reduceMul, Nat.reduceSub, Int.reduceToNat, Int.reduceLE, Int.reduceLT, Int.reduceEq, Int.reduceAdd, ↓reduceIte, decide_true, decide_false, and_self]
        refine ⟨by omega, ?_⟩
        refine call_intro (Code_c x) (fun _ => ⟨rfl, fun T0 e => by cases e⟩) ?_
        cases hq : codeB x with
        | true =>
          have e : subOf (x :: t) = [(x, t)] := by show (if codeB x = true then _ else _) = _; rw [hq]; rfl
          simp (maxSteps := 200000) only [h, h', hg, hps', hps0, Nat.zero_lt_succ, hw, hne, hx0, hxl, hxd, hxt, hxc, htc, hAl, Nat.add_sub_cancel, push_cast, List.getD_cons_zero, List.getD_cons_succ, List.take_succ_cons, List.take_zero, List.drop_succ_cons, Nat.reduceLT, Nat.reduceLeDiff, Nat.reduceEqDiff, Nat.reduceAdd, Nat.reduceMul, Nat.reduceSub, Int.reduceToNat, Int.reduceLE, Int.reduceLT, Int.reduceEq, Int.reduceAdd, ↓reduceIte, decide_true, decide_false, and_self]
          refine ⟨by kernel_rfl, by omega, by omega, ⟨by omega, by omega⟩, okTr_of (by kernel_rfl), ?_⟩
          refine run_back_le (le_mk (l' := [(23, .sl ps.length (txCells ps)), (24, .int .i64 ps.length), (25, .int .i64 ((i + 1 : Nat) : Int)), (4, .own 100 _ 0 (A ++ [(x, t)]).length)]) (t' := [(100, ⟨_, 2, subCells (A ++ [(x, t)])⟩)]) (nx' := _) ⟨.refl _, .refl _, .of_eq (congrArg (AV.int .i64) (by omega)), .of_eq (congrArg (AV.own 100 _ 0) (by simp)), trivial⟩ ⟨⟨_, rfl, rfl, rfl, by rw [subCells_snoc]; exact SubL.refl _⟩, trivial⟩ (Nat.le_refl _)) ?_
          exact ⟨ps.length - (i + 1), by omega, i + 1, _, _, by omega, rfl, by rw [hA, e]⟩
        | false =>
          have e : subOf (x :: t) = [(97, x :: t)] := by show (if codeB x = true then _ else _) = _; rw [hq]; rfl
          simp (maxSteps := 200000) only [h, h', hg, hps', hps0, Nat.zero_lt_succ, hw, hne, hx0, hxl, hxd, hxt, hxc, htc, hAl, Nat.add_sub_cancel, push_cast, List.getD_cons_zero, List.getD_cons_succ, List.take_succ_cons, List.take_zero, List.drop_succ_cons, Nat.reduceLT, Nat.reduceLeDiff, Nat.reduceEqDiff, Nat.reduceAdd, Nat.reduceMul, Nat.reduceSub, Int.reduceToNat, Int.reduceLE, Int.reduceLT, Int.reduceEq, Int.reduceAdd, ↓reduceIte, decide_true, decide_false, and_self]
          refine ⟨⟨by omega, by omega⟩, ?_⟩
          refine run_back_le (le_mk (l' := [(23, .sl ps.length (txCells ps)), (24, .int .i64 ps.length), (25, .int .i64 ((i + 1 : Nat) : Int)), (4, .own 100 _ 0 (A ++ [(97, x :: t)]).length)]) (t' := [(100, ⟨_, 2, subCells (A ++ [(97, x :: t)])⟩)]) (nx' := _) ⟨.refl _, .refl _, .of_eq (congrArg (AV.int .i64) (by omega)), .of_eq (congrArg (AV.own 100 _ 0) (by simp)), trivial⟩ ⟨⟨_, rfl, rfl, rfl, by rw [subCells_snoc]; show SubL _ (subCells A ++ [.int .u8 97, .sl (x :: t).length (u8s (x :: t))]); rw [hX]; exact SubL.refl _⟩, trivial⟩ (Nat.le_refl _)) ?_
          exact ⟨ps.length - (i + 1), by omega, i + 1, _, _, by omega, rfl, by rw [hA, e]⟩
    · have hie : i = ps.length := by omega
      have h' : ¬ (i : Int) < (ps.length : Int) := by omega
      have hA : subHd p0 ++ (ps.take i).flatMap subOf = subHd p0 ++ ps.flatMap subOf := by rw [hie, List.take_length]
      rw [hA]
      generalize subHd p0 ++ ps.flatMap subOf = A at *
      have hAl := subCells_length A
      have hAc := subCells_closed A
      have hAt : (subCells A).take (A.length * 2) = subCells A := List.take_of_length_le (by omega)
      refine ex_run 60 ?_
      simp (maxSteps := 200000) only [h, h', push_cast, List.getD_cons_zero, List.getD_cons_succ, List.take_succ_cons, List.take_zero, List.drop_succ_cons, Nat.reduceLT, Nat.reduceLeDiff, Nat.reduceEqDiff, Nat.reduceAdd, Nat.reduceMul, Nat.reduceSub, Int.reduceToNat, Int.reduceLE, Int.reduceLT, Int.reduceEq, Int.reduceAdd, ↓reduceIte, decide_true, decide_false, and_self]
      exact ⟨_, [.sl A.length (subCells A)], rfl, by simp [outA, outV, outC, mkS_env, mkS_tk, lkF, lkG, hAt, hAc, AV.closed, closedL], .refl _, rfl⟩
end Go.Proofs.YteapibifebnboaaDoor
