/- FieldCut: the plain law. -/
import Derived.Test.YtbkmbiccdhnibaaFldK
set_option linter.unusedVariables false
namespace Go.Proofs.Ytbkmbiccdhnibaa
open Go Go.Eng
theorem goodF_eq {f : FV} (h : goodF f = true) : fparse f.tag (fbytes f) = .inr f := by
  unfold goodF at h
  split at h
  · rename_i g hg
    have : f = g := of_decide_eq_true h
    rw [hg, ← this]
  · cases h
structure CutParts (f : FV) : Prop where
  tag : goodTag f.tag = true
  i0 : indB f.i0 = true
  i1 : indB f.i1 = true
  text : f.text = []
  subs : f.subs ≠ []
  good : ∀ s ∈ f.subs, gsub s
  bytes : fbytes f = f.i0 :: f.i1 :: f.subs.flatMap subB
theorem cut_parts {f : FV} (h : goodF f = true) (hc : ctl f.tag = false) : CutParts f := by
  have hp := goodF_eq h
  have hb : fbytes f = f.i0 :: f.i1 :: f.subs.flatMap subB := by unfold fbytes; rw [if_neg (by rw [hc]; simp)]
  unfold fparse at hp
  split at hp
  · cases hp
  · rename_i h1
    rw [if_neg (by rw [hc]; simp)] at hp
    split at hp
    · cases hp
    · rename_i h2
      split at hp
      · cases hp
      · rename_i h3
        split at hp
        · rename_i h4
          have hg := subsP_good _ _ _ h4
          have e : f = ⟨f.tag, [], (fbytes f).getD 0 0, (fbytes f).getD 1 0, (subsP ((fbytes f).length + 1) ((fbytes f).drop 2) 2).2⟩ := (Sum.inr.inj hp).symm
          have e2 : f.subs = (subsP ((fbytes f).length + 1) ((fbytes f).drop 2) 2).2 := congrArg FV.subs e
          have e3 : f.text = [] := congrArg FV.text e
          rw [hb] at h2 h3
          refine ⟨by simpa using h1, ?_, ?_, e3, ?_, ?_, hb⟩
          · cases hi : indB f.i0 with
            | true => rfl
            | false => exact absurd (.inr (by simpa using hi)) h2
          · cases hi : indB f.i1 with
            | true => rfl
            | false => exact absurd (.inr (by simpa using hi)) h3
          · rw [e2]; exact hg.1 (by omega)
          · rw [e2]; exact hg.2
        · cases hp
def mayB (b : List Int) (k : Nat) : Bool := decide (4 ≤ k) && decide (b.getD (k - 1) 0 ≠ 31)
theorem cut_field {f : FV} (h : goodF f = true) (hc : ctl f.tag = false) (k : Nat) (hk : k < (fbytes f).length) :
    (mayB (fbytes f) k = true → ∃ x, fparse f.tag ((fbytes f).take k) = .inr x ∧ fbytes x = (fbytes f).take k ∧ x.tag = f.tag) ∧ (mayB (fbytes f) k = false → fparse f.tag ((fbytes f).take k) = .inl (k : Int)) := by
  obtain ⟨ht, h0, h1, htx, hs, hgs, hb⟩ := cut_parts h hc
  rw [hb] at hk ⊢
  unfold fparse
  rw [if_neg (by rw [ht]; simp), if_neg (by rw [hc]; simp)]
  by_cases k0 : k = 0
  · subst k0
    refine ⟨fun hm => by simp [mayB] at hm, fun _ => by simp⟩
  by_cases k1 : k = 1
  · subst k1
    refine ⟨fun hm => by simp [mayB] at hm, fun _ => by simp [h0]⟩
  obtain ⟨j, rfl⟩ : ∃ j, k = j + 2 := ⟨k - 2, by omega⟩
  rw [List.take_succ_cons, List.take_succ_cons]
  simp only [List.length_cons] at hk
  have hql : ((f.subs.flatMap subB).take j).length = j := by rw [List.length_take]; omega
  have hcut := cut_subs f.subs hgs hs j (by omega) (j + 2 + 1) 2 (by omega)
  rw [if_neg (by simp [h0]), if_neg (by simp [h1])]
  have e1 : (f.i0 :: f.i1 :: (f.subs.flatMap subB).take j).length + 1 = j + 2 + 1 := by simp only [List.length_cons, hql]
  have e2 : (f.i0 :: f.i1 :: (f.subs.flatMap subB).take j).drop 2 = (f.subs.flatMap subB).take j := rfl
  rw [e1, e2]
  have hiff : cutOk ((f.subs.flatMap subB).take j) ↔ mayB (f.i0 :: f.i1 :: f.subs.flatMap subB) (j + 2) = true := by
    unfold cutOk mayB
    rw [hql, Bool.and_eq_true, decide_eq_true_eq, decide_eq_true_eq]
    by_cases hj : 2 ≤ j
    · have : (f.i0 :: f.i1 :: f.subs.flatMap subB).getD (j + 2 - 1) 0 = ((f.subs.flatMap subB).take j).getD (j - 1) 0 := by
        rw [show j + 2 - 1 = (j - 1) + 1 + 1 by omega, List.getD_cons_succ, List.getD_cons_succ, List.getD_eq_getElem?_getD, List.getD_eq_getElem?_getD, List.getElem?_take, if_pos (by omega)]
      rw [this]
      constructor
      · rintro ⟨a, b⟩; exact ⟨by omega, b⟩
      · rintro ⟨a, b⟩; exact ⟨hj, b⟩
    · constructor
      · rintro ⟨a, b⟩; omega
      · rintro ⟨a, b⟩; omega
  refine ⟨fun hm => ?_, fun hm => ?_⟩
  · obtain ⟨L', q1, q2⟩ := hcut.1 (hiff.2 hm)
    rw [q1]
    refine ⟨⟨f.tag, [], f.i0, f.i1, L'⟩, by rw [if_pos (show (-1 : Int) < 0 by decide)]; rfl, ?_, rfl⟩
    unfold fbytes
    rw [if_neg (by show ¬ ctl f.tag = true; rw [hc]; simp)]
    show f.i0 :: f.i1 :: L'.flatMap subB = _
    rw [q2]
  · have := hcut.2 (fun hx => by rw [hiff.1 hx] at hm; cases hm)
    rw [this, if_neg (by omega)]
    congr 1
    omega
end Go.Proofs.Ytbkmbiccdhnibaa
