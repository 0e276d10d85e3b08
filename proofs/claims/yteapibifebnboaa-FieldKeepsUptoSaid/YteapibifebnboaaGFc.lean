/- GFc: the texts FldK, FldL, FldM, FldN, one behind the other. -/
import Derived.Test.YteapibifebnboaaGFb
import Derived.Test.YteapibifebnboaaGEc
set_option linter.unusedVariables false
set_option linter.unusedSimpArgs false

/- field: what a beginning of a field is, as plain lists. -/
set_option linter.unusedVariables false
namespace Go.Proofs.Yteapibifebnboaa
open Go Go.Eng
def gsub (s : SubV) : Prop := codeB s.1 = true ∧ ∀ x ∈ s.2, freeB x = true
theorem takeWhile_all : ∀ {l : List Int}, ∀ x ∈ l.takeWhile freeB, freeB x = true
  | [], x, h => by cases h
  | c :: l, x, h => by
    by_cases hc : freeB c = true
    · rw [List.takeWhile_cons_of_pos hc] at h
      rcases List.mem_cons.1 h with rfl | h
      · exact hc
      · exact takeWhile_all x h
    · rw [List.takeWhile_cons_of_neg hc] at h; cases h
theorem oneOf_good {l : List Int} (hn : ¬ (oneOf l).2.2.1 < 0) : gsub ((oneOf l).1, (oneOf l).2.1) := by
  unfold oneOf at hn ⊢
  split at hn
  · exact absurd (by decide) hn
  · split at hn
    · exact absurd (by decide) hn
    · rename_i h1 h2
      rw [if_neg h1, if_neg h2]
      refine ⟨?_, takeWhile_all⟩
      cases hc : codeB (l.getD 1 0) with
      | true => rfl
      | false => exact absurd (.inr hc) h2
theorem oneOf_at (l : List Int) : 0 ≤ (oneOf l).2.2.2 := by
  unfold oneOf
  split
  · decide
  · split
    · decide
    · exact Int.le_refl 0
theorem subsP_good : ∀ (K : Nat) (rest : List Int) (at_ : Nat), (subsP K rest at_).1 < 0 → (0 < K → (subsP K rest at_).2 ≠ []) ∧ ∀ s ∈ (subsP K rest at_).2, gsub s
  | 0, rest, at_, _ => ⟨fun h => by omega, fun s hs => by cases hs⟩
  | K + 1, rest, at_, h => by
    have ho := oneOf_at rest
    unfold subsP at h ⊢
    simp only at h ⊢
    split at h
    · simp only at h; omega
    · rename_i h1
      rw [if_neg h1]
      have hg := oneOf_good h1
      split at h
      · rename_i h2
        rw [if_pos h2]
        refine ⟨fun _ => by simp, fun s hs => ?_⟩
        rw [List.mem_singleton] at hs; subst hs; exact hg
      · rename_i h2
        rw [if_neg h2]
        refine ⟨fun _ => by simp, fun s hs => ?_⟩
        rcases List.mem_cons.1 hs with rfl | hs
        · exact hg
        · exact (subsP_good K _ _ h).2 s hs
theorem oneOf_cons {c : Int} {m : List Int} (hc : codeB c = true) : oneOf (31 :: c :: m) = (c, m.takeWhile freeB, ((2 + (m.takeWhile freeB).length : Nat) : Int), 0) := by
  unfold oneOf
  rw [if_neg, if_neg]
  · rfl
  · simp [hc]
  · simp
theorem takeWhile_free {m : List Int} (h : ∀ x ∈ m, freeB x = true) : m.takeWhile freeB = m := by
  induction m with
  | nil => rfl
  | cons c m ih => rw [List.takeWhile_cons_of_pos (h c List.mem_cons_self), ih fun x hx => h x (List.mem_cons_of_mem _ hx)]
theorem takeWhile_stop {m q : List Int} (h : ∀ x ∈ m, freeB x = true) : (m ++ 31 :: q).takeWhile freeB = m := by
  induction m with
  | nil => rfl
  | cons c m ih => rw [List.cons_append, List.takeWhile_cons_of_pos (h c List.mem_cons_self), ih fun x hx => h x (List.mem_cons_of_mem _ hx)]
theorem free_ne31 {c : Int} (h : freeB c = true) : c ≠ 31 := by intro e; subst e; cases h
theorem code_ne31 {c : Int} (h : codeB c = true) : c ≠ 31 := by intro e; subst e; cases h
def cutOk (q : List Int) : Prop := 2 ≤ q.length ∧ q.getD (q.length - 1) 0 ≠ 31
theorem cut_subs : ∀ (L : List SubV), (∀ s ∈ L, gsub s) → L ≠ [] → ∀ (j : Nat), j ≤ (L.flatMap subB).length → ∀ (K at_ : Nat), j < K →
    (cutOk ((L.flatMap subB).take j) → ∃ L', subsP K ((L.flatMap subB).take j) at_ = (-1, L') ∧ L'.flatMap subB = (L.flatMap subB).take j) ∧
    (¬ cutOk ((L.flatMap subB).take j) → (subsP K ((L.flatMap subB).take j) at_).1 = ((at_ + j : Nat) : Int))
  | [], _, hne, _, _, _, _, _ => absurd rfl hne
  | (c, t) :: L, hg, _, j, hj, K, at_, hK => by
    obtain ⟨K, rfl⟩ : ∃ m, K = m + 1 := ⟨K - 1, by omega⟩
    obtain ⟨hc, hf⟩ := hg (c, t) List.mem_cons_self
    have hfl : ((c, t) :: L).flatMap subB = 31 :: c :: (t ++ L.flatMap subB) := rfl
    rw [hfl] at hj ⊢
    simp only [List.length_cons, List.length_append] at hj
    by_cases j0 : j = 0
    · subst j0
      refine ⟨fun h => by simp [cutOk] at h, fun _ => by simp [subsP, oneOf]⟩
    by_cases j1 : j = 1
    · subst j1
      refine ⟨fun h => by simp [cutOk] at h, fun _ => by simp [subsP, oneOf]⟩
    obtain ⟨j, rfl⟩ : ∃ m, j = m + 2 := ⟨j - 2, by omega⟩
    rw [List.take_succ_cons, List.take_succ_cons]
    by_cases h1 : j ≤ t.length
    · rw [List.take_append_of_le_length h1]
      have hm : ∀ x ∈ t.take j, freeB x = true := fun x hx => hf x (List.mem_of_mem_take hx)
      have hml : (t.take j).length = j := by rw [List.length_take]; omega
      have hq : cutOk (31 :: c :: t.take j) := by
        refine ⟨by simp, ?_⟩
        simp only [List.length_cons, hml]
        rw [show j + 1 + 1 - 1 = j + 1 by omega, List.getD_cons_succ]
        cases j with
        | zero => simpa using code_ne31 hc
        | succ j =>
          rw [List.getD_cons_succ]
          have hlt : j < (t.take (j + 1)).length := by omega
          rw [List.getD_eq_getElem?_getD, List.getElem?_eq_getElem hlt]
          exact free_ne31 (hm _ (List.getElem_mem hlt))
      refine ⟨fun _ => ⟨[(c, t.take j)], ?_, by simp [subB]⟩, fun h => absurd hq h⟩
      simp only [subsP, oneOf_cons hc, takeWhile_free hm, hml]
      rw [if_neg (by omega), if_pos (by simp [hml]; omega)]
    · obtain ⟨i, rfl⟩ : ∃ i, j = t.length + (i + 1) := ⟨j - t.length - 1, by omega⟩
      rw [List.take_append, List.take_of_length_le (by omega), show t.length + (i + 1) - t.length = i + 1 by omega]
      have hLne : L ≠ [] := by intro e; subst e; simp at hj; omega
      obtain ⟨⟨d, u⟩, L2, hL2⟩ : ∃ s L2, L = s :: L2 := by
        cases L with
        | nil => exact absurd rfl hLne
        | cons s L2 => exact ⟨s, L2, rfl⟩
      have hq31 : (L.flatMap subB).take (i + 1) = 31 :: ((d :: (u ++ L2.flatMap subB)).take i) := by subst hL2; rfl
      have hql : ((L.flatMap subB).take (i + 1)).length = i + 1 := by rw [List.length_take]; omega
      have ih := cut_subs L (fun s hs => hg s (List.mem_cons_of_mem _ hs)) hLne (i + 1) (by omega) K (at_ + (2 + t.length)) (by omega)
      have hone : oneOf (31 :: c :: (t ++ (L.flatMap subB).take (i + 1))) = (c, t, ((2 + t.length : Nat) : Int), 0) := by
        rw [hq31, oneOf_cons hc, takeWhile_stop hf]
      have hsub : subsP (K + 1) (31 :: c :: (t ++ (L.flatMap subB).take (i + 1))) at_ = ((subsP K ((L.flatMap subB).take (i + 1)) (at_ + (2 + t.length))).1, (c, t) :: (subsP K ((L.flatMap subB).take (i + 1)) (at_ + (2 + t.length))).2) := by
        simp only [subsP, hone, Int.toNat_natCast]
        rw [if_neg (by omega), if_neg (by simp only [List.length_cons, List.length_append, hql]; omega)]
        have hd : List.drop (2 + t.length) (31 :: c :: (t ++ (L.flatMap subB).take (i + 1))) = (L.flatMap subB).take (i + 1) := by
          rw [show 2 + t.length = t.length + 1 + 1 by omega, List.drop_succ_cons, List.drop_succ_cons, List.drop_append, List.drop_of_length_le (by omega), Nat.sub_self]; rfl
        rw [hd]
      rw [hsub]
      generalize hQ : (L.flatMap subB).take (i + 1) = q at *
      have hcut : cutOk (31 :: c :: (t ++ q)) ↔ cutOk q := by
        unfold cutOk
        simp only [List.length_cons, List.length_append, hql]
        have e1 : (31 :: c :: (t ++ q)).getD (t.length + (i + 1) + 1 + 1 - 1) 0 = q.getD (i + 1 - 1) 0 := by
          rw [show t.length + (i + 1) + 1 + 1 - 1 = t.length + i + 1 + 1 by omega, List.getD_cons_succ, List.getD_cons_succ, List.getD_eq_getElem?_getD, List.getElem?_append_right (by omega), show t.length + i - t.length = i + 1 - 1 by omega, ← List.getD_eq_getElem?_getD]
        rw [e1]
        constructor
        · rintro ⟨a, b⟩
          refine ⟨?_, b⟩
          rcases Nat.eq_zero_or_pos i with h0 | h0
          · subst h0
            rw [hq31] at b
            simp at b
          · omega
        · rintro ⟨a, b⟩; exact ⟨by omega, b⟩
      rw [hcut]
      refine ⟨fun h => ?_, fun h => ?_⟩
      · obtain ⟨L', e, e2⟩ := ih.1 h
        exact ⟨(c, t) :: L', by rw [e], by rw [List.flatMap_cons, e2]; rfl⟩
      · rw [ih.2 h]; omega
end Go.Proofs.Yteapibifebnboaa

/- FieldCut: the plain law. -/
set_option linter.unusedVariables false
namespace Go.Proofs.Yteapibifebnboaa
open Go Go.Eng
theorem goodF_eq {f : FV} (h : goodF f = true) : fparse f.tag (fbytes f) = .inr f := by
  unfold goodF at h
  split at h
  · rename_i g hg
    have : f = g := of_decide_eq_true h
    rw [hg, ← this]
  · cases h
structure CutParts (f : FV) : Prop where
  tag : goodTag f.tag = true
  i0 : indB f.i0 = true
  i1 : indB f.i1 = true
  text : f.text = []
  subs : f.subs ≠ []
  good : ∀ s ∈ f.subs, gsub s
  bytes : fbytes f = f.i0 :: f.i1 :: f.subs.flatMap subB
theorem cut_parts {f : FV} (h : goodF f = true) (hc : ctl f.tag = false) : CutParts f := by
  have hp := goodF_eq h
  have hb : fbytes f = f.i0 :: f.i1 :: f.subs.flatMap subB := by unfold fbytes; rw [if_neg (by rw [hc]; simp)]
  unfold fparse at hp
  split at hp
  · cases hp
  · rename_i h1
    rw [if_neg (by rw [hc]; simp)] at hp
    split at hp
    · cases hp
    · rename_i h2
      split at hp
      · cases hp
      · rename_i h3
        split at hp
        · rename_i h4
          have hg := subsP_good _ _ _ h4
          have e : f = ⟨f.tag, [], (fbytes f).getD 0 0, (fbytes f).getD 1 0, (subsP ((fbytes f).length + 1) ((fbytes f).drop 2) 2).2⟩ := (Sum.inr.inj hp).symm
          have e2 : f.subs = (subsP ((fbytes f).length + 1) ((fbytes f).drop 2) 2).2 := congrArg FV.subs e
          have e3 : f.text = [] := congrArg FV.text e
          rw [hb] at h2 h3
          refine ⟨by simpa using h1, ?_, ?_, e3, ?_, ?_, hb⟩
          · cases hi : indB f.i0 with
            | true => rfl
            | false => exact absurd (.inr (by simpa using hi)) h2
          · cases hi : indB f.i1 with
            | true => rfl
            | false => exact absurd (.inr (by simpa using hi)) h3
          · rw [e2]; exact hg.1 (by omega)
          · rw [e2]; exact hg.2
        · cases hp
def mayB (b : List Int) (k : Nat) : Bool := decide (4 ≤ k) && decide (b.getD (k - 1) 0 ≠ 31)
theorem cut_field {f : FV} (h : goodF f = true) (hc : ctl f.tag = false) (k : Nat) (hk : k < (fbytes f).length) :
    (mayB (fbytes f) k = true → ∃ x, fparse f.tag ((fbytes f).take k) = .inr x ∧ fbytes x = (fbytes f).take k ∧ x.tag = f.tag) ∧ (mayB (fbytes f) k = false → fparse f.tag ((fbytes f).take k) = .inl (k : Int)) := by
  obtain ⟨ht, h0, h1, htx, hs, hgs, hb⟩ := cut_parts h hc
  rw [hb] at hk ⊢
  unfold fparse
  rw [if_neg (by rw [ht]; simp), if_neg (by rw [hc]; simp)]
  by_cases k0 : k = 0
  · subst k0
    refine ⟨fun hm => by simp [mayB] at hm, fun _ => by simp⟩
  by_cases k1 : k = 1
  · subst k1
    refine ⟨fun hm => by simp [mayB] at hm, fun _ => by simp [h0]⟩
  obtain ⟨j, rfl⟩ : ∃ j, k = j + 2 := ⟨k - 2, by omega⟩
  rw [List.take_succ_cons, List.take_succ_cons]
  simp only [List.length_cons] at hk
  have hql : ((f.subs.flatMap subB).take j).length = j := by rw [List.length_take]; omega
  have hcut := cut_subs f.subs hgs hs j (by omega) (j + 2 + 1) 2 (by omega)
  rw [if_neg (by simp [h0]), if_neg (by simp [h1])]
  have e1 : (f.i0 :: f.i1 :: (f.subs.flatMap subB).take j).length + 1 = j + 2 + 1 := by simp only [List.length_cons, hql]
  have e2 : (f.i0 :: f.i1 :: (f.subs.flatMap subB).take j).drop 2 = (f.subs.flatMap subB).take j := rfl
  rw [e1, e2]
  have hiff : cutOk ((f.subs.flatMap subB).take j) ↔ mayB (f.i0 :: f.i1 :: f.subs.flatMap subB) (j + 2) = true := by
    unfold cutOk mayB
    rw [hql, Bool.and_eq_true, decide_eq_true_eq, decide_eq_true_eq]
    by_cases hj : 2 ≤ j
    · have : (f.i0 :: f.i1 :: f.subs.flatMap subB).getD (j + 2 - 1) 0 = ((f.subs.flatMap subB).take j).getD (j - 1) 0 := by
        rw [show j + 2 - 1 = (j - 1) + 1 + 1 by omega, List.getD_cons_succ, List.getD_cons_succ, List.getD_eq_getElem?_getD, List.getD_eq_getElem?_getD, List.getElem?_take, if_pos (by omega)]
      rw [this]
      constructor
      · rintro ⟨a, b⟩; exact ⟨by omega, b⟩
      · rintro ⟨a, b⟩; exact ⟨hj, b⟩
    · constructor
      · rintro ⟨a, b⟩; omega
      · rintro ⟨a, b⟩; omega
  refine ⟨fun hm => ?_, fun hm => ?_⟩
  · obtain ⟨L', q1, q2⟩ := hcut.1 (hiff.2 hm)
    rw [q1]
    refine ⟨⟨f.tag, [], f.i0, f.i1, L'⟩, by rw [if_pos (show (-1 : Int) < 0 by decide)]; rfl, ?_, rfl⟩
    unfold fbytes
    rw [if_neg (by show ¬ ctl f.tag = true; rw [hc]; simp)]
    show f.i0 :: f.i1 :: L'.flatMap subB = _
    rw [q2]
  · have := hcut.2 (fun hx => by rw [hiff.1 hx] at hm; cases hm)
    rw [this, if_neg (by omega)]
    congr 1
    omega
end Go.Proofs.Yteapibifebnboaa

/- The law FieldCut: at every argument it returns true. -/
set_option linter.unusedVariables false
set_option linter.unusedSimpArgs false
namespace Go.Proofs.Yteapibifebnboaa
open Go Go.Eng
theorem FParse_n (tag b : List Int) (n : Nat) (hn : b.length = n) (ht : tag.length ≤ 9223372036854775807) (hl : n ≤ 1099511627776) : ACall Try.prog 26 [.str tag, .sl n (u8s b)] (fres (fparse tag b)) none := by
  subst hn; exact FParse_c tag b ht hl
theorem same_n (a b : List Int) (n m : Nat) (ha : a.length = n) (hb : b.length = m) (hl : n ≤ 9223372036854775807) : ACall Try.prog 27 [.sl n (u8s a), .sl m (u8s b)] (.bool (a == b)) none := by
  subst ha; subst hb; exact same_c a b hl
set_option maxRecDepth 100000 in
set_option maxHeartbeats 8000000 in
theorem FieldCut_c (f : FV) (h1 : f.tag.length ≤ 140737488351232) (h2 : f.text.length ≤ 140737488351232) (h3 : ∀ s ∈ f.subs, s.2.length ≤ 140737488351232) (h4 : f.subs.length ≤ 140737488351232) (n : Int) (hn : 0 ≤ n ∧ n ≤ 65535) :
    ACall Try.prog 6 [.agg (fCells f), .int .u16 n] (.bool true) none := by
  have hn0 : IntKind.i64.wrap n = n := wrap_i64 (by omega)
  have hcl : closedL (subCells f.subs) = true := subCells_closed _
  refine acall_intro none Try.func6 rfl (by kernel_rfl) (by simp [Try.f6]) ?_
  refine ex_run 30 ?_
  simp (maxSteps := 200000) only [Try.f6, fCells, hcl, push_cast, List.getD_cons_zero, List.getD_cons_succ, List.take_succ_cons, List.take_zero, List.drop_succ_cons, Nat.reduceLT, Nat.reduceLeDiff, Nat.reduceEqDiff, Nat.reduceAdd, Nat.reduceMul, Nat.reduceSub, Int.reduceToNat, Int.reduceLE, Int.reduceLT, Int.reduceEq, Int.reduceAdd, ↓reduceIte, decide_true, decide_false, and_self]
  refine call_intro (small_c f h1 h2 h3 h4) (fun h => by cases h) ?_
  by_cases hsm : tot f < 20000
  · rw [decide_eq_true hsm]
    have hfb := fbytes_tot f
    simp (maxSteps := 200000) only [fCells, hcl, push_cast, List.getD_cons_zero, List.getD_cons_succ, List.take_succ_cons, List.take_zero, List.drop_succ_cons, Nat.reduceLT, Nat.reduceLeDiff, Nat.reduceEqDiff, Nat.reduceAdd, Nat.reduceMul, Nat.reduceSub, Int.reduceToNat, Int.reduceLE, Int.reduceLT, Int.reduceEq, Int.reduceAdd, ↓reduceIte, decide_true, decide_false, and_self]
    refine call_intro (good_c f (by omega) (by omega) (fun s hs => by have := h3 s hs; omega) (by omega) (by omega)) (fun h => by cases h) ?_
    cases hgd : goodF f with
    | false =>
      simp (maxSteps := 200000) only [fCells, hcl, push_cast, List.getD_cons_zero, List.getD_cons_succ, List.take_succ_cons, List.take_zero, List.drop_succ_cons, Nat.reduceLT, Nat.reduceLeDiff, Nat.reduceEqDiff, Nat.reduceAdd, Nat.reduceMul, Nat.reduceSub, Int.reduceToNat, Int.reduceLE, Int.reduceLT, Int.reduceEq, Int.reduceAdd, ↓reduceIte, decide_true, decide_false, and_self]
      refine call_intro answers21_c (fun h => by cases h) ?_
      simp (maxSteps := 200000) only [push_cast, List.getD_cons_zero, List.getD_cons_succ, List.take_succ_cons, List.take_zero, List.drop_succ_cons, Nat.reduceLT, Nat.reduceLeDiff, Nat.reduceEqDiff, Nat.reduceAdd, Nat.reduceMul, Nat.reduceSub, Int.reduceToNat, Int.reduceLE, Int.reduceLT, Int.reduceEq, Int.reduceAdd, ↓reduceIte, decide_true, decide_false, and_self]
      exact ⟨_, _, rfl, rfl, .refl _, rfl⟩
    | true =>
      simp (maxSteps := 200000) only [fCells, hcl, push_cast, List.getD_cons_zero, List.getD_cons_succ, List.take_succ_cons, List.take_zero, List.drop_succ_cons, Nat.reduceLT, Nat.reduceLeDiff, Nat.reduceEqDiff, Nat.reduceAdd, Nat.reduceMul, Nat.reduceSub, Int.reduceToNat, Int.reduceLE, Int.reduceLT, Int.reduceEq, Int.reduceAdd, ↓reduceIte, decide_true, decide_false, and_self]
      refine call_intro (RControl_c f.tag (by omega)) (fun h => by cases h) ?_
      cases hc : List.isPrefixOf [48, 48] f.tag with
      | true =>
        simp (maxSteps := 200000) only [fCells, hcl, push_cast, List.getD_cons_zero, List.getD_cons_succ, List.take_succ_cons, List.take_zero, List.drop_succ_cons, Nat.reduceLT, Nat.reduceLeDiff, Nat.reduceEqDiff, Nat.reduceAdd, Nat.reduceMul, Nat.reduceSub, Int.reduceToNat, Int.reduceLE, Int.reduceLT, Int.reduceEq, Int.reduceAdd, ↓reduceIte, decide_true, decide_false, and_self]
        refine call_intro answers21_c (fun h => by cases h) ?_
        simp (maxSteps := 200000) only [push_cast, List.getD_cons_zero, List.getD_cons_succ, List.take_succ_cons, List.take_zero, List.drop_succ_cons, Nat.reduceLT, Nat.reduceLeDiff, Nat.reduceEqDiff, Nat.reduceAdd, Nat.reduceMul, Nat.reduceSub, Int.reduceToNat, Int.reduceLE, Int.reduceLT, Int.reduceEq, Int.reduceAdd, ↓reduceIte, decide_true, decide_false, and_self]
        exact ⟨_, _, rfl, rfl, .refl _, rfl⟩
      | false =>
        have hcut := fun k hk => cut_field hgd hc k hk
        have hblen : 0 < (fbytes f).length := by rw [(cut_parts hgd hc).bytes]; simp
        simp (maxSteps := 200000) only [fCells, hcl, push_cast, List.getD_cons_zero, List.getD_cons_succ, List.take_succ_cons, List.take_zero, List.drop_succ_cons, Nat.reduceLT, Nat.reduceLeDiff, Nat.reduceEqDiff, Nat.reduceAdd, Nat.reduceMul, Nat.reduceSub, Int.reduceToNat, Int.reduceLE, Int.reduceLT, Int.reduceEq, Int.reduceAdd, ↓reduceIte, decide_true, decide_false, and_self]
        refine call_intro (rbytes_s f (by omega) (by omega)) (fun h => by cases h) ?_
        generalize hb : fbytes f = b at *
        have hp0 : ¬ (b.length : Int) = 0 := by omega
        obtain ⟨k, hk⟩ : ∃ k : Nat, n.tmod (b.length : Int) = (k : Int) := ⟨(n.tmod (b.length : Int)).toNat, by have := Int.tmod_nonneg (b.length : Int) hn.1; omega⟩
        have hkl : k < b.length := by have := Int.tmod_lt_of_pos n (b := (b.length : Int)) (by omega); omega
        have hk1 : (k : Int) ≤ (b.length : Int) := by omega
        have hk2 : k ≤ b.length := by omega
        have hml : (b.take k).length = k := by rw [List.length_take]; omega
        obtain ⟨hmy, hmn⟩ := hcut k hkl
        simp (maxSteps := 200000) only [hn0, hk, hk1, hk2, push_cast, List.getD_cons_zero, List.getD_cons_succ, List.take_succ_cons, List.take_zero, List.drop_succ_cons, Nat.reduceLT, Nat.reduceLeDiff, Nat.reduceEqDiff, Nat.reduceAdd, Nat.reduceMul, Nat.reduceSub, Int.reduceToNat, Int.reduceLE, Int.reduceLT, Int.reduceEq, Int.reduceAdd, ↓reduceIte, decide_true, decide_false, and_self]
        refine ⟨hp0, by kernel_rfl, ?_⟩
        refine call_introF (FParse_n f.tag (b.take k) k hml (by omega) (by omega)) (fun h => by cases h) ?_
        cases hm : mayB b k with
        | true =>
          obtain ⟨x, q1, q2, q3⟩ := hmy hm
          rw [q1]
          have hcx : closedL (subCells x.subs) = true := subCells_closed _
          simp only [mayB, Bool.and_eq_true, decide_eq_true_eq] at hm
          obtain ⟨m1, m2⟩ := hm
          have hk4 : (4 : Int) ≤ (k : Int) := by omega
          have wk : IntKind.i64.wrap ((k : Int) - 1) = (k : Int) - 1 := wrap_i64 (by omega)
          have tk : ((k : Int) - 1).toNat = k - 1 := by omega
          have pk1 : (0 : Int) ≤ (k : Int) - 1 := by omega
          have pk2 : (k : Int) - 1 < (b.length : Int) := by omega
          have pk3 : k - 1 < b.length := by omega
          have gk := u8s_getD b (k - 1) (by omega)
          simp (maxSteps := 200000) only [fres, fCells, hcx, hk4, m2, wk, tk, pk1, pk2, pk3, gk, hblen, hk1, hk2, push_cast, List.getD_cons_zero, List.getD_cons_succ, List.take_succ_cons, List.take_zero, List.drop_succ_cons, Nat.reduceLT, Nat.reduceLeDiff, Nat.reduceEqDiff, Nat.reduceAdd, Nat.reduceMul, Nat.reduceSub, Int.reduceToNat, Int.reduceLE, Int.reduceLT, Int.reduceEq, Int.reduceAdd, ↓reduceIte, decide_true, decide_false, and_self]
          refine ⟨okTr_of (by kernel_rfl), by kernel_rfl, ?_⟩
          refine call_introF answers21_c (fun h => by cases h) ?_
          simp (maxSteps := 200000) only [hcx, wk, tk, pk1, pk2, pk3, gk, hblen, hk1, hk2, push_cast, List.getD_cons_zero, List.getD_cons_succ, List.take_succ_cons, List.take_zero, List.drop_succ_cons, Nat.reduceLT, Nat.reduceLeDiff, Nat.reduceEqDiff, Nat.reduceAdd, Nat.reduceMul, Nat.reduceSub, Int.reduceToNat, Int.reduceLE, Int.reduceLT, Int.reduceEq, Int.reduceAdd, ↓reduceIte, decide_true, decide_false, and_self]
          refine call_introF (rbytes_s x (by rw [q3]; omega) (by rw [q2, hml]; omega)) (fun h => by cases h) ?_
          rw [q2, hml]
          simp (maxSteps := 200000) only [hcx, wk, tk, pk1, pk2, pk3, gk, hblen, hk1, hk2, push_cast, List.getD_cons_zero, List.getD_cons_succ, List.take_succ_cons, List.take_zero, List.drop_succ_cons, Nat.reduceLT, Nat.reduceLeDiff, Nat.reduceEqDiff, Nat.reduceAdd, Nat.reduceMul, Nat.reduceSub, Int.reduceToNat, Int.reduceLE, Int.reduceLT, Int.reduceEq, Int.reduceAdd, ↓reduceIte, decide_true, decide_false, and_self]
          refine call_introF (same_n (b.take k) (b.take k) k k hml hml (by omega)) (fun h => by cases h) ?_
          rw [beq_self_eq_true]
          simp (maxSteps := 200000) only [hcx, wk, tk, pk1, pk2, pk3, gk, hblen, hk1, hk2, push_cast, List.getD_cons_zero, List.getD_cons_succ, List.take_succ_cons, List.take_zero, List.drop_succ_cons, Nat.reduceLT, Nat.reduceLeDiff, Nat.reduceEqDiff, Nat.reduceAdd, Nat.reduceMul, Nat.reduceSub, Int.reduceToNat, Int.reduceLE, Int.reduceLT, Int.reduceEq, Int.reduceAdd, ↓reduceIte, decide_true, decide_false, and_self]
          refine ⟨okTr_of (by kernel_rfl), ?_⟩
          exact ⟨_, _, rfl, rfl, .refl _, rfl⟩
        | false =>
          rw [hmn hm]
          by_cases m1 : 4 ≤ k
          · have hk4 : (4 : Int) ≤ (k : Int) := by omega
            have m2 : b.getD (k - 1) 0 = 31 := by
              simp only [mayB, Bool.and_eq_false_iff, decide_eq_false_iff_not] at hm
              exact Classical.byContradiction fun hx => hm.elim (fun h => h m1) (fun h => h hx)
            have wk : IntKind.i64.wrap ((k : Int) - 1) = (k : Int) - 1 := wrap_i64 (by omega)
            have tk : ((k : Int) - 1).toNat = k - 1 := by omega
            have pk1 : (0 : Int) ≤ (k : Int) - 1 := by omega
            have pk2 : (k : Int) - 1 < (b.length : Int) := by omega
            have pk3 : k - 1 < b.length := by omega
            have gk := u8s_getD b (k - 1) (by omega)
            simp (maxSteps := 200000) only [fres, fCells, zeroF, subCells_nil, u8s_nil, hk4, m2, wk, tk, pk1, pk2, pk3, gk, hblen, hk1, hk2, push_cast, List.getD_cons_zero, List.getD_cons_succ, List.take_succ_cons, List.take_zero, List.drop_succ_cons, Nat.reduceLT, Nat.reduceLeDiff, Nat.reduceEqDiff, Nat.reduceAdd, Nat.reduceMul, Nat.reduceSub, Int.reduceToNat, Int.reduceLE, Int.reduceLT, Int.reduceEq, Int.reduceAdd, ↓reduceIte, decide_true, decide_false, and_self]
            refine ⟨okTr_of (by kernel_rfl), by kernel_rfl, ?_⟩
            refine call_introF answers21_c (fun h => by cases h) ?_
            simp (maxSteps := 200000) only [wk, tk, pk1, pk2, pk3, gk, hblen, hk1, hk2, push_cast, List.getD_cons_zero, List.getD_cons_succ, List.take_succ_cons, List.take_zero, List.drop_succ_cons, Nat.reduceLT, Nat.reduceLeDiff, Nat.reduceEqDiff, Nat.reduceAdd, Nat.reduceMul, Nat.reduceSub, Int.reduceToNat, Int.reduceLE, Int.reduceLT, Int.reduceEq, Int.reduceAdd, ↓reduceIte, decide_true, decide_false, and_self]
            refine ⟨okTr_of (by kernel_rfl), ?_⟩
            exact ⟨_, _, rfl, rfl, .refl _, rfl⟩
          · have hk4 : ¬ (4 : Int) ≤ (k : Int) := by omega
            simp (maxSteps := 200000) only [fres, fCells, zeroF, subCells_nil, u8s_nil, hk4, push_cast, List.getD_cons_zero, List.getD_cons_succ, List.take_succ_cons, List.take_zero, List.drop_succ_cons, Nat.reduceLT, Nat.reduceLeDiff, Nat.reduceEqDiff, Nat.reduceAdd, Nat.reduceMul, Nat.reduceSub, Int.reduceToNat, Int.reduceLE, Int.reduceLT, Int.reduceEq, Int.reduceAdd, ↓reduceIte, decide_true, decide_false, and_self]
            refine ⟨okTr_of (by kernel_rfl), by kernel_rfl, ?_⟩
            refine call_introF answers21_c (fun h => by cases h) ?_
            simp (maxSteps := 200000) only [hk4, push_cast, List.getD_cons_zero, List.getD_cons_succ, List.take_succ_cons, List.take_zero, List.drop_succ_cons, Nat.reduceLT, Nat.reduceLeDiff, Nat.reduceEqDiff, Nat.reduceAdd, Nat.reduceMul, Nat.reduceSub, Int.reduceToNat, Int.reduceLE, Int.reduceLT, Int.reduceEq, Int.reduceAdd, ↓reduceIte, decide_true, decide_false, and_self]
            refine ⟨okTr_of (by kernel_rfl), ?_⟩
            exact ⟨_, _, rfl, rfl, .refl _, rfl⟩
  · rw [decide_eq_false hsm]
    simp (maxSteps := 200000) only [push_cast, List.getD_cons_zero, List.getD_cons_succ, List.take_succ_cons, List.take_zero, List.drop_succ_cons, Nat.reduceLT, Nat.reduceLeDiff, Nat.reduceEqDiff, Nat.reduceAdd, Nat.reduceMul, Nat.reduceSub, Int.reduceToNat, Int.reduceLE, Int.reduceLT, Int.reduceEq, Int.reduceAdd, ↓reduceIte, decide_true, decide_false, and_self]
    refine call_intro answers21_c (fun h => by cases h) ?_
    simp (maxSteps := 200000) only [push_cast, List.getD_cons_zero, List.getD_cons_succ, List.take_succ_cons, List.take_zero, List.drop_succ_cons, Nat.reduceLT, Nat.reduceLeDiff, Nat.reduceEqDiff, Nat.reduceAdd, Nat.reduceMul, Nat.reduceSub, Int.reduceToNat, Int.reduceLE, Int.reduceLT, Int.reduceEq, Int.reduceAdd, ↓reduceIte, decide_true, decide_false, and_self]
    exact ⟨_, _, rfl, rfl, .refl _, rfl⟩
end Go.Proofs.Yteapibifebnboaa

/- field: what is handed in, as the row reads it. -/
set_option linter.unusedVariables false
namespace Go.Proofs.Yteapibifebnboaa
open Go Go.Eng
theorem opens_two {P : Program} {H : Type} {t e : TypeId} (ht : P.underlying t = some (.array 2 e)) (he : P.underlying e = some (.int .u8)) (hc : P.cellsOf e = 1) (hct : P.cellsOf t = 2) :
    OpensW P H t fun xs => ∃ a b : Int, xs = [.int .u8 a, .int .u8 b] := by
  intro enc w base sp held n cs x h hw
  cases n with
  | zero => simp [DataW.trod] at h
  | succ n =>
    unfold DataW.trod at h
    rw [ht] at h
    simp only [hc, hct, Nat.mul_one] at h
    split at h
    · rename_i hl
      obtain ⟨ys, hy, _⟩ := Option.map_eq_some_iff.1 h
      have hyl := mapM_some_length hy
      rw [List.length_range] at hyl
      have g0 := mapM_some_get hy 0 0 (by simp)
      have g1 := mapM_some_get hy 1 1 (by simp)
      rw [List.getElem?_eq_getElem (by omega)] at g0 g1
      obtain ⟨a, e0, _, _⟩ := DataW.trod_int he g0
      obtain ⟨b, e1, _, _⟩ := DataW.trod_int he g1
      match cs, hl with
      | [u, v], _ =>
        simp at e0 e1
        subst e0; subst e1
        exact ⟨_, ⟨a, b, rfl⟩, .cons (.int .u8 a) (.cons (.int .u8 b) (RepL.nil _)), by simp [Value.oneCell']⟩
    · cases h
theorem opens_struct4W {P : Program} {H : Type} {t : TypeId} {f0 f1 f2 f3 : Field} {R0 R1 R2 R3 : List AV → Prop} (ht : P.underlying t = some (.struct #[f0, f1, f2, f3])) (h0 : OpensW P H f0.type R0) (h1 : OpensW P H f1.type R1) (h2 : OpensW P H f2.type R2) (h3 : OpensW P H f3.type R3)
    (o0 : f0.offset = 0) (o1 : f1.offset = P.cellsOf f0.type) (o2 : f2.offset = P.cellsOf f0.type + P.cellsOf f1.type) (o3 : f3.offset = P.cellsOf f0.type + P.cellsOf f1.type + P.cellsOf f2.type) (tot : P.cellsOf t = P.cellsOf f0.type + P.cellsOf f1.type + P.cellsOf f2.type + P.cellsOf f3.type) :
    OpensW P H t fun xs => ∃ a b c d, R0 a ∧ R1 b ∧ R2 c ∧ R3 d ∧ xs = a ++ (b ++ (c ++ d)) := by
  refine (opens_structW (Rs := [(f0, R0), (f1, R1), (f2, R2), (f3, R3)]) ht rfl (fun i p hp => ?_) (by simp [tot, Nat.add_assoc]) (fun p hp => ?_)).imp ?_
  · match i, hp with
    | 0, hp => cases hp; simpa using o0
    | 1, hp => cases hp; simpa using o1
    | 2, hp => cases hp; simpa using o2
    | 3, hp => cases hp; simpa [Nat.add_assoc] using o3
    | n + 4, hp => simp at hp
  · simp only [List.mem_cons, List.not_mem_nil, or_false] at hp
    rcases hp with rfl | rfl | rfl | rfl
    · exact h0
    · exact h1
    · exact h2
    · exact h3
  · rintro xs ⟨parts, hl, hp, rfl⟩
    match parts, hl with
    | [a, b, c, d], _ =>
      exact ⟨a, b, c, d, (hp 0 _ a rfl rfl).1, (hp 1 _ b rfl rfl).1, (hp 2 _ c rfl rfl).1, (hp 3 _ d rfl rfl).1, by simp⟩
theorem opens_struct2W {P : Program} {H : Type} {t : TypeId} {f0 f1 : Field} {R0 R1 : List AV → Prop} (ht : P.underlying t = some (.struct #[f0, f1])) (h0 : OpensW P H f0.type R0) (h1 : OpensW P H f1.type R1)
    (o0 : f0.offset = 0) (o1 : f1.offset = P.cellsOf f0.type) (tot : P.cellsOf t = P.cellsOf f0.type + P.cellsOf f1.type) :
    OpensW P H t fun xs => ∃ a b, R0 a ∧ R1 b ∧ xs = a ++ b := by
  refine (opens_structW (Rs := [(f0, R0), (f1, R1)]) ht rfl (fun i p hp => ?_) (by simp [tot]) (fun p hp => ?_)).imp ?_
  · match i, hp with
    | 0, hp => cases hp; simpa using o0
    | 1, hp => cases hp; simpa using o1
    | n + 2, hp => simp at hp
  · simp only [List.mem_cons, List.not_mem_nil, or_false] at hp
    rcases hp with rfl | rfl
    · exact h0
    · exact h1
  · rintro xs ⟨parts, hl, hp, rfl⟩
    match parts, hl with
    | [a, b], _ => exact ⟨a, b, (hp 0 _ a rfl rfl).1, (hp 1 _ b rfl rfl).1, by simp⟩
theorem opensTextW {H : Type} : OpensW Try.prog H 22 fun xs => ∃ l : List Int, (∀ c ∈ l, 0 ≤ c ∧ c < 256) ∧ l.length ≤ 140737488351232 ∧ xs = [.sl l.length (u8s l)] :=
  opens_bytesW Try.underlying22 Try.underlying5 (by kernel_rfl) (by kernel_rfl)
theorem opensSubW {H : Type} : OpensW Try.prog H 57 fun xs => ∃ s : SubV, s.2.length ≤ 140737488351232 ∧ xs = sCells s := by
  refine (opens_struct2W Try.underlying57 (opens_intW Try.underlying5) opensTextW (by kernel_rfl) (by kernel_rfl) (by kernel_rfl)).imp ?_
  rintro xs ⟨a, b, ⟨n, _, rfl⟩, ⟨l, _, l2, rfl⟩, rfl⟩
  exact ⟨(n, l), l2, rfl⟩
theorem opensSubsW {H : Type} : OpensW Try.prog H 40 fun xs => ∃ L : List SubV, (∀ s ∈ L, s.2.length ≤ 140737488351232) ∧ L.length ≤ 140737488351232 ∧ xs = [.sl L.length (subCells L)] := by
  refine (opens_sliceW (s := 2) Try.underlying40 (by kernel_rfl) (by omega) (of_decide_eq_true (by kernel_rfl)) opensSubW).imp ?_
  rintro xs ⟨els, h1, h2, rfl⟩
  obtain ⟨L, rfl⟩ := all_form (f := sCells) h1 fun c hc => let ⟨⟨s, _, h⟩, _⟩ := hc; ⟨s, h⟩
  refine ⟨L, fun s hs => ?_, by simpa using h2, by rw [List.length_map]; rfl⟩
  obtain ⟨⟨s', l1, h⟩, _⟩ := h1 (sCells s) (List.mem_map.2 ⟨s, hs, rfl⟩)
  simp only [sCells, List.cons.injEq, AV.int.injEq, AV.sl.injEq, true_and, and_true] at h
  omega
theorem opensFieldW {H : Type} : OpensW Try.prog H 42 fun xs => ∃ f : FV, f.tag.length ≤ 140737488351232 ∧ f.text.length ≤ 140737488351232 ∧ (∀ s ∈ f.subs, s.2.length ≤ 140737488351232) ∧ f.subs.length ≤ 140737488351232 ∧ xs = fCells f := by
  refine (opens_struct4W Try.underlying42 (opens_strW Try.underlying9) opensTextW (opens_two Try.underlying39 Try.underlying5 (by kernel_rfl) (by kernel_rfl)) opensSubsW (by kernel_rfl) (by kernel_rfl) (by kernel_rfl) (by kernel_rfl) (by kernel_rfl)).imp ?_
  rintro xs ⟨a, b, c, d, ⟨tag, _, t2, rfl⟩, ⟨tx, _, x2, rfl⟩, ⟨i, j, rfl⟩, ⟨L, l1, l2, rfl⟩, rfl⟩
  exact ⟨⟨tag, tx, i, j, L⟩, t2, x2, l1, l2, rfl⟩
theorem opensU16W {H : Type} : OpensW Try.prog H 37 fun xs => ∃ n : Int, (IntKind.u16.min ≤ n ∧ n ≤ IntKind.u16.max) ∧ xs = [.int .u16 n] := opens_intW Try.underlying37
theorem FieldCut_call {xs : List AV} {b : AV} (h : ∃ f : FV, f.tag.length ≤ 140737488351232 ∧ f.text.length ≤ 140737488351232 ∧ (∀ s ∈ f.subs, s.2.length ≤ 140737488351232) ∧ f.subs.length ≤ 140737488351232 ∧ xs = fCells f) (k : ∃ n : Int, (IntKind.u16.min ≤ n ∧ n ≤ IntKind.u16.max) ∧ [b] = [.int .u16 n]) :
    ACall Try.prog 6 [.agg xs, b] (.bool true) none := by
  obtain ⟨f, h1, h2, h3, h4, rfl⟩ := h
  obtain ⟨n, k1, e⟩ := k
  cases e
  simp [IntKind.min, IntKind.max, IntKind.bits, IntKind.signed] at k1
  exact FieldCut_c f h1 h2 h3 h4 n (by omega)
end Go.Proofs.Yteapibifebnboaa
