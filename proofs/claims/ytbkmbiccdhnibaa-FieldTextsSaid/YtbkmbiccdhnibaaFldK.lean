/- field: what a beginning of a field is, as plain lists. -/
import Derived.Test.YtbkmbiccdhnibaaFldJ
set_option linter.unusedVariables false
namespace Go.Proofs.Ytbkmbiccdhnibaa
open Go Go.Eng
def gsub (s : SubV) : Prop := codeB s.1 = true ∧ ∀ x ∈ s.2, freeB x = true
theorem takeWhile_all : ∀ {l : List Int}, ∀ x ∈ l.takeWhile freeB, freeB x = true
  | [], x, h => by cases h
  | c :: l, x, h => by
    by_cases hc : freeB c = true
    · rw [List.takeWhile_cons_of_pos hc] at h
      rcases List.mem_cons.1 h with rfl | h
      · exact hc
      · exact takeWhile_all x h
    · rw [List.takeWhile_cons_of_neg hc] at h; cases h
theorem oneOf_good {l : List Int} (hn : ¬ (oneOf l).2.2.1 < 0) : gsub ((oneOf l).1, (oneOf l).2.1) := by
  unfold oneOf at hn ⊢
  split at hn
  · exact absurd (by decide) hn
  · split at hn
    · exact absurd (by decide) hn
    · rename_i h1 h2
      rw [if_neg h1, if_neg h2]
      refine ⟨?_, takeWhile_all⟩
      cases hc : codeB (l.getD 1 0) with
      | true => rfl
      | false => exact absurd (.inr hc) h2
theorem oneOf_at (l : List Int) : 0 ≤ (oneOf l).2.2.2 := by
  unfold oneOf
  split
  · decide
  · split
    · decide
    · exact Int.le_refl 0
theorem subsP_good : ∀ (K : Nat) (rest : List Int) (at_ : Nat), (subsP K rest at_).1 < 0 → (0 < K → (subsP K rest at_).2 ≠ []) ∧ ∀ s ∈ (subsP K rest at_).2, gsub s
  | 0, rest, at_, _ => ⟨fun h => by omega, fun s hs => by cases hs⟩
  | K + 1, rest, at_, h => by
    have ho := oneOf_at rest
    unfold subsP at h ⊢
    simp only at h ⊢
    split at h
    · simp only at h; omega
    · rename_i h1
      rw [if_neg h1]
      have hg := oneOf_good h1
      split at h
      · rename_i h2
        rw [if_pos h2]
        refine ⟨fun _ => by simp, fun s hs => ?_⟩
        rw [List.mem_singleton] at hs; subst hs; exact hg
      · rename_i h2
        rw [if_neg h2]
        refine ⟨fun _ => by simp, fun s hs => ?_⟩
        rcases List.mem_cons.1 hs with rfl | hs
        · exact hg
        · exact (subsP_good K _ _ h).2 s hs
theorem oneOf_cons {c : Int} {m : List Int} (hc : codeB c = true) : oneOf (31 :: c :: m) = (c, m.takeWhile freeB, ((2 + (m.takeWhile freeB).length : Nat) : Int), 0) := by
  unfold oneOf
  rw [if_neg, if_neg]
  · rfl
  · simp [hc]
  · simp
theorem takeWhile_free {m : List Int} (h : ∀ x ∈ m, freeB x = true) : m.takeWhile freeB = m := by
  induction m with
  | nil => rfl
  | cons c m ih => rw [List.takeWhile_cons_of_pos (h c List.mem_cons_self), ih fun x hx => h x (List.mem_cons_of_mem _ hx)]
theorem takeWhile_stop {m q : List Int} (h : ∀ x ∈ m, freeB x = true) : (m ++ 31 :: q).takeWhile freeB = m := by
  induction m with
  | nil => rfl
  | cons c m ih => rw [List.cons_append, List.takeWhile_cons_of_pos (h c List.mem_cons_self), ih fun x hx => h x (List.mem_cons_of_mem _ hx)]
theorem free_ne31 {c : Int} (h : freeB c = true) : c ≠ 31 := by intro e; subst e; cases h
theorem code_ne31 {c : Int} (h : codeB c = true) : c ≠ 31 := by intro e; subst e; cases h
def cutOk (q : List Int) : Prop := 2 ≤ q.length ∧ q.getD (q.length - 1) 0 ≠ 31
theorem cut_subs : ∀ (L : List SubV), (∀ s ∈ L, gsub s) → L ≠ [] → ∀ (j : Nat), j ≤ (L.flatMap subB).length → ∀ (K at_ : Nat), j < K →
    (cutOk ((L.flatMap subB).take j) → ∃ L', subsP K ((L.flatMap subB).take j) at_ = (-1, L') ∧ L'.flatMap subB = (L.flatMap subB).take j) ∧
    (¬ cutOk ((L.flatMap subB).take j) → (subsP K ((L.flatMap subB).take j) at_).1 = ((at_ + j : Nat) : Int))
  | [], _, hne, _, _, _, _, _ => absurd rfl hne
  | (c, t) :: L, hg, _, j, hj, K, at_, hK => by
    obtain ⟨K, rfl⟩ : ∃ m, K = m + 1 := ⟨K - 1, by omega⟩
    obtain ⟨hc, hf⟩ := hg (c, t) List.mem_cons_self
    have hfl : ((c, t) :: L).flatMap subB = 31 :: c :: (t ++ L.flatMap subB) := rfl
    rw [hfl] at hj ⊢
    simp only [List.length_cons, List.length_append] at hj
    by_cases j0 : j = 0
    · subst j0
      refine ⟨fun h => by simp [cutOk] at h, fun _ => by simp [subsP, oneOf]⟩
    by_cases j1 : j = 1
    · subst j1
      refine ⟨fun h => by simp [cutOk] at h, fun _ => by simp [subsP, oneOf]⟩
    obtain ⟨j, rfl⟩ : ∃ m, j = m + 2 := ⟨j - 2, by omega⟩
    rw [List.take_succ_cons, List.take_succ_cons]
    by_cases h1 : j ≤ t.length
    · rw [List.take_append_of_le_length h1]
      have hm : ∀ x ∈ t.take j, freeB x = true := fun x hx => hf x (List.mem_of_mem_take hx)
      have hml : (t.take j).length = j := by rw [List.length_take]; omega
      have hq : cutOk (31 :: c :: t.take j) := by
        refine ⟨by simp, ?_⟩
        simp only [List.length_cons, hml]
        rw [show j + 1 + 1 - 1 = j + 1 by omega, List.getD_cons_succ]
        cases j with
        | zero => simpa using code_ne31 hc
        | succ j =>
          rw [List.getD_cons_succ]
          have hlt : j < (t.take (j + 1)).length := by omega
          rw [List.getD_eq_getElem?_getD, List.getElem?_eq_getElem hlt]
          exact free_ne31 (hm _ (List.getElem_mem hlt))
      refine ⟨fun _ => ⟨[(c, t.take j)], ?_, by simp [subB]⟩, fun h => absurd hq h⟩
      simp only [subsP, oneOf_cons hc, takeWhile_free hm, hml]
      rw [if_neg (by omega), if_pos (by simp [hml]; omega)]
    · obtain ⟨i, rfl⟩ : ∃ i, j = t.length + (i + 1) := ⟨j - t.length - 1, by omega⟩
      rw [List.take_append, List.take_of_length_le (by omega), show t.length + (i + 1) - t.length = i + 1 by omega]
      have hLne : L ≠ [] := by intro e; subst e; simp at hj; omega
      obtain ⟨⟨d, u⟩, L2, hL2⟩ : ∃ s L2, L = s :: L2 := by
        cases L with
        | nil => exact absurd rfl hLne
        | cons s L2 => exact ⟨s, L2, rfl⟩
      have hq31 : (L.flatMap subB).take (i + 1) = 31 :: ((d :: (u ++ L2.flatMap subB)).take i) := by subst hL2; rfl
      have hql : ((L.flatMap subB).take (i + 1)).length = i + 1 := by rw [List.length_take]; omega
      have ih := cut_subs L (fun s hs => hg s (List.mem_cons_of_mem _ hs)) hLne (i + 1) (by omega) K (at_ + (2 + t.length)) (by omega)
      have hone : oneOf (31 :: c :: (t ++ (L.flatMap subB).take (i + 1))) = (c, t, ((2 + t.length : Nat) : Int), 0) := by
        rw [hq31, oneOf_cons hc, takeWhile_stop hf]
      have hsub : subsP (K + 1) (31 :: c :: (t ++ (L.flatMap subB).take (i + 1))) at_ = ((subsP K ((L.flatMap subB).take (i + 1)) (at_ + (2 + t.length))).1, (c, t) :: (subsP K ((L.flatMap subB).take (i + 1)) (at_ + (2 + t.length))).2) := by
        simp only [subsP, hone, Int.toNat_natCast]
        rw [if_neg (by omega), if_neg (by simp only [List.length_cons, List.length_append, hql]; omega)]
        have hd : List.drop (2 + t.length) (31 :: c :: (t ++ (L.flatMap subB).take (i + 1))) = (L.flatMap subB).take (i + 1) := by
          rw [show 2 + t.length = t.length + 1 + 1 by omega, List.drop_succ_cons, List.drop_succ_cons, List.drop_append, List.drop_of_length_le (by omega), Nat.sub_self]; rfl
        rw [hd]
      rw [hsub]
      generalize hQ : (L.flatMap subB).take (i + 1) = q at *
      have hcut : cutOk (31 :: c :: (t ++ q)) ↔ cutOk q := by
        unfold cutOk
        simp only [List.length_cons, List.length_append, hql]
        have e1 : (31 :: c :: (t ++ q)).getD (t.length + (i + 1) + 1 + 1 - 1) 0 = q.getD (i + 1 - 1) 0 := by
          rw [show t.length + (i + 1) + 1 + 1 - 1 = t.length + i + 1 + 1 by omega, List.getD_cons_succ, List.getD_cons_succ, List.getD_eq_getElem?_getD, List.getElem?_append_right (by omega), show t.length + i - t.length = i + 1 - 1 by omega, ← List.getD_eq_getElem?_getD]
        rw [e1]
        constructor
        · rintro ⟨a, b⟩
          refine ⟨?_, b⟩
          rcases Nat.eq_zero_or_pos i with h0 | h0
          · subst h0
            rw [hq31] at b
            simp at b
          · omega
        · rintro ⟨a, b⟩; exact ⟨by omega, b⟩
      rw [hcut]
      refine ⟨fun h => ?_, fun h => ?_⟩
      · obtain ⟨L', e, e2⟩ := ih.1 h
        exact ⟨(c, t) :: L', by rw [e], by rw [List.flatMap_cons, e2]; rfl⟩
      · rw [ih.2 h]; omega
end Go.Proofs.Ytbkmbiccdhnibaa
