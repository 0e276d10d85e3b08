/- field: what is parsed has these bytes, as plain lists. -/
import Derived.Test.YtbkmbiccdhnibaaFldO
set_option linter.unusedVariables false
namespace Go.Proofs.Ytbkmbiccdhnibaa
open Go Go.Eng
theorem oneOf_take {l : List Int} (h : ¬ (oneOf l).2.2.1 < 0) : l.take (oneOf l).2.2.1.toNat = subB ((oneOf l).1, (oneOf l).2.1) ∧ (oneOf l).2.2.1.toNat ≤ l.length := by
  unfold oneOf at h ⊢
  split at h
  · exact absurd (by decide) h
  · rename_i h1
    split at h
    · exact absurd (by decide) h
    · rename_i h2
      rw [if_neg h1, if_neg h2]
      simp only [Int.toNat_natCast]
      match l, h1, h2 with
      | [], h1, _ => exact absurd (.inl (by simp)) h1
      | [a], _, h2 => exact absurd (.inl (by simp)) h2
      | a :: c :: m, h1, _ =>
        have ha : a = 31 := Classical.byContradiction fun e => h1 (.inr (by simpa using e))
        subst ha
        have hp : m.takeWhile freeB = m.take (m.takeWhile freeB).length := (List.prefix_iff_eq_take.1 (List.takeWhile_prefix freeB))
        have hle : (m.takeWhile freeB).length ≤ m.length := (List.takeWhile_prefix freeB).length_le
        have hd : (31 :: c :: m : List Int).drop 2 = m := rfl
        rw [hd, show 2 + (m.takeWhile freeB).length = (m.takeWhile freeB).length + 1 + 1 by omega, List.take_succ_cons, List.take_succ_cons, ← hp]
        exact ⟨rfl, by simp only [List.length_cons]; omega⟩
theorem subsP_flat : ∀ (K : Nat) (rest : List Int) (at_ : Nat), rest.length < K → (subsP K rest at_).1 < 0 → (subsP K rest at_).2.flatMap subB = rest
  | 0, rest, at_, hk, _ => by omega
  | K + 1, rest, at_, hk, h => by
    have ho := oneOf_at rest
    unfold subsP at h ⊢
    simp only at h ⊢
    split at h
    · simp only at h; omega
    · rename_i h1
      rw [if_neg h1]
      obtain ⟨ht, hl⟩ := oneOf_take h1
      split at h
      · rename_i h2
        rw [if_pos h2]
        rw [List.take_of_length_le h2] at ht
        simp only [List.flatMap_cons, List.flatMap_nil, List.append_nil]
        exact ht.symm
      · rename_i h2
        rw [if_neg h2]
        have hpos : 0 < (oneOf rest).2.2.1.toNat := by
          have : (subB ((oneOf rest).1, (oneOf rest).2.1)).length = (rest.take (oneOf rest).2.2.1.toNat).length := by rw [ht]
          rw [List.length_take] at this
          simp only [subB, List.length_cons] at this
          omega
        have ih := subsP_flat K (rest.drop (oneOf rest).2.2.1.toNat) (at_ + (oneOf rest).2.2.1.toNat) (by rw [List.length_drop]; omega) h
        simp only [List.flatMap_cons]
        rw [ih, ← ht, List.take_append_drop]
theorem fparse_bytes {tag b : List Int} {g : FV} (h : fparse tag b = .inr g) : fbytes g = b ∧ g.tag = tag ∧ (ctl tag = false → g.text = []) ∧ (ctl tag = true → g.subs = []) := by
  unfold fparse at h
  split at h
  · cases h
  · split at h
    · rename_i hc
      split at h
      · cases h
        unfold fbytes
        rw [if_pos hc]
        exact ⟨rfl, rfl, fun e => (by rw [hc] at e; cases e), fun _ => rfl⟩
      · cases h
    · rename_i hc
      split at h
      · cases h
      · rename_i h2
        split at h
        · cases h
        · rename_i h3
          split at h
          · rename_i h4
            cases h
            unfold fbytes
            rw [if_neg hc]
            have hf := subsP_flat _ _ _ (by rw [List.length_drop]; omega) h4
            refine ⟨?_, rfl, fun _ => rfl, fun e => absurd e hc⟩
            show b.getD 0 0 :: b.getD 1 0 :: _ = b
            rw [hf]
            match b, h2, h3 with
            | [], h2, _ => exact absurd (.inl (by simp)) h2
            | [a], _, h3 => exact absurd (.inl (by simp)) h3
            | a :: c :: m, _, _ => rfl
          · cases h
theorem fparse_good {tag b : List Int} {g : FV} (h : fparse tag b = .inr g) : goodF g = true := by
  obtain ⟨h1, h2, _⟩ := fparse_bytes h
  unfold goodF
  rw [h1, h2, h]
  exact decide_eq_true rfl
theorem fparse_FB {tag b : List Int} {g : FV} (h : fparse tag b = .inr g) (hb : inB b) : FB g := by
  obtain ⟨h1, h2, h3, h4⟩ := fparse_bytes h
  cases hc : ctl tag with
  | true =>
    have e : g.text = b := by
      unfold fbytes at h1
      rw [if_pos (by rw [h2]; exact hc)] at h1; exact h1
    refine ⟨by rw [e]; exact hb, fun s hs => by rw [h4 hc] at hs; cases hs⟩
  | false =>
    have hm : ∀ s ∈ g.subs, ∀ c ∈ subB s, c ∈ b := fun s hs c hcs => by
      rw [← h1]
      unfold fbytes
      rw [if_neg (by rw [h2, hc]; simp)]
      exact List.mem_cons_of_mem _ (List.mem_cons_of_mem _ (List.mem_flatMap.2 ⟨s, hs, hcs⟩))
    refine ⟨(by rw [h3 hc]; intro c hc; cases hc), fun s hs => ⟨?_, fun c hcs => ?_⟩⟩
    · exact hb _ (hm s hs _ (List.mem_cons_of_mem _ (List.mem_cons_self ..)))
    · exact hb _ (hm s hs _ (List.mem_cons_of_mem _ (List.mem_cons_of_mem _ hcs)))
theorem fbytes_inB {f g : FV} (hF : FB f) (h : fparse f.tag (fbytes f) = .inr g) : inB (fbytes f) := by
  cases hc : ctl f.tag with
  | true => rw [show fbytes f = f.text by unfold fbytes; rw [if_pos hc]]; exact hF.text
  | false =>
    have e : fbytes f = f.i0 :: f.i1 :: f.subs.flatMap subB := by unfold fbytes; rw [if_neg (by rw [hc]; simp)]
    rw [e] at h ⊢
    have hI : ∀ {c : Int}, indB c = true → 0 ≤ c ∧ c < 256 := fun {c} h => by
      simp only [indB, Bool.and_eq_true, decide_eq_true_eq] at h; omega
    have h01 : indB f.i0 = true ∧ indB f.i1 = true := by
      unfold fparse at h
      split at h
      · cases h
      · rw [if_neg (by rw [hc]; simp)] at h
        split at h
        · cases h
        · rename_i h2
          split at h
          · cases h
          · rename_i h3
            simp only [not_or, List.getD_cons_zero, List.getD_cons_succ, Bool.not_eq_false] at h2 h3
            exact ⟨h2.2, h3.2⟩
    intro c hcm
    rcases List.mem_cons.1 hcm with rfl | hcm
    · exact hI h01.1
    · rcases List.mem_cons.1 hcm with rfl | hcm
      · exact hI h01.2
      · obtain ⟨s, hs, hcs⟩ := List.mem_flatMap.1 hcm
        rcases List.mem_cons.1 hcs with rfl | hcs
        · decide
        · rcases List.mem_cons.1 hcs with rfl | hcs
          · exact (hF.subs s hs).1
          · exact (hF.subs s hs).2 c hcs
theorem fparse_two {tag : List Int} {x y : Int} (hc : ctl tag = false) : ∃ a, fparse tag [x, y] = .inl a := by
  unfold fparse
  split
  · exact ⟨_, rfl⟩
  · rw [if_neg (by rw [hc]; simp)]
    split
    · exact ⟨_, rfl⟩
    · split
      · exact ⟨_, rfl⟩
      · rw [if_neg (show ¬ (subsP ([x, y].length + 1) (List.drop 2 [x, y]) 2).1 < 0 from (by decide : ¬ (subsP 3 [] 2).1 < 0))]; exact ⟨_, rfl⟩
theorem fparse_sizes {tag b : List Int} {g : FV} (h : fparse tag b = .inr g) : g.subs.length ≤ b.length ∧ g.text.length ≤ b.length ∧ ∀ s ∈ g.subs, s.2.length ≤ b.length := by
  obtain ⟨h1, h2, h3, h4⟩ := fparse_bytes h
  cases hc : ctl tag with
  | true =>
    have e : g.text = b := by
      unfold fbytes at h1
      rw [if_pos (by rw [h2]; exact hc)] at h1; exact h1
    rw [h4 hc, e]
    exact ⟨Nat.zero_le _, Nat.le_refl _, fun s hs => by cases hs⟩
  | false =>
    have e : b.length = (g.subs.flatMap subB).length + 2 := by
      rw [← h1]; unfold fbytes; rw [if_neg (by rw [h2, hc]; simp)]; rfl
    have hcnt := flat_cnt g.subs
    rw [h3 hc]
    exact ⟨by omega, Nat.zero_le _, fun s hs => by have := sub_len_le hs; omega⟩
end Go.Proofs.Ytbkmbiccdhnibaa
