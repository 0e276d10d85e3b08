/- What ref19.Mend steps through, as plain lists. -/
import Derived.Test.YteapibifebnboaaDoorMndPc
import Derived.Test.YteapibifebnboaaDoorMndWr
set_option linter.unusedVariables false
set_option linter.unusedSimpArgs false
namespace Go.Proofs.YteapibifebnboaaDoor
open Go Go.Eng
theorem upTo_cons (c x : Int) (t : List Int) : upTo c (x :: t) = if x = c then [] else x :: upTo c t := by
  unfold upTo
  by_cases e : x = c
  · rw [if_pos e, List.takeWhile_cons_of_neg (by simp [e])]
  · rw [if_neg e, List.takeWhile_cons_of_pos (by simp [e])]
theorem upTo_step (c : Int) : ∀ (l : List Int) (j : Nat), j ≤ (upTo c l).length → (j < (upTo c l).length ↔ j < l.length ∧ l.getD j 0 ≠ c)
  | [], j, h => by simp [upTo]
  | x :: t, 0, h => by
    rw [upTo_cons]
    by_cases e : x = c
    · rw [if_pos e]; simp [e]
    · rw [if_neg e]; simp [e]
  | x :: t, j + 1, h => by
    rw [upTo_cons] at h ⊢
    by_cases e : x = c
    · rw [if_pos e] at h; simp at h
    · rw [if_neg e] at h ⊢
      have := upTo_step c t j (by simpa using h)
      simp only [List.length_cons, List.getD_cons_succ]
      constructor
      · intro h2; have := this.1 (by omega); exact ⟨by omega, this.2⟩
      · intro h2; have := this.2 ⟨by omega, h2.2⟩; omega
theorem splitL_snoc (c x : Int) : ∀ (l : List Int) (acc : List (List Int)) (now : List Int), splitL c l = acc ++ [now] → splitL c (l ++ [x]) = if x = c then (acc ++ [now]) ++ [[]] else acc ++ [now ++ [x]]
  | [], acc, now, h => by
    rw [splitL] at h
    have h1 : acc = [] := by
      cases acc with
      | nil => rfl
      | cons a A => simp at h
    subst h1
    simp at h
    subst h
    rw [List.nil_append, splitL]
    by_cases e : x = c
    · rw [if_pos e, if_pos e]; rfl
    · rw [if_neg e, if_neg e]; rfl
  | y :: t, acc, now, h => by
    obtain ⟨A, n, hA⟩ : ∃ A n, splitL c t = A ++ [n] := ⟨(splitL c t).dropLast, (splitL c t).getLast (splitL_ne c t), (List.dropLast_concat_getLast _).symm⟩
    have ih := splitL_snoc c x t A n hA
    rw [List.cons_append, splitL] 
    rw [splitL] at h
    by_cases ey : y = c
    · rw [if_pos ey] at h ⊢
      rw [hA] at h
      have h' : ([] :: A) ++ [n] = acc ++ [now] := h
      obtain ⟨e1, e2⟩ := List.append_inj' h' rfl
      cases e2
      rw [ih, ← e1]
      split <;> simp
    · rw [if_neg ey] at h ⊢
      cases A with
      | nil =>
        rw [hA] at h
        simp only [List.nil_append] at h ih
        have h' : [] ++ [y :: n] = acc ++ [now] := h
        obtain ⟨e1, e2⟩ := List.append_inj' h' rfl
        cases e2
        subst e1
        rw [ih]
        by_cases e : x = c
        · rw [if_pos e, if_pos e]; rfl
        · rw [if_neg e, if_neg e]; rfl
      | cons a A =>
        rw [hA] at h
        have h' : ((y :: a) :: A) ++ [n] = acc ++ [now] := h
        obtain ⟨e1, e2⟩ := List.append_inj' h' rfl
        cases e2
        rw [ih, ← e1]
        by_cases e : x = c
        · rw [if_pos e, if_pos e]; rfl
        · rw [if_neg e, if_neg e]; rfl
theorem dropE_snoc (acc : List (List Int)) (now : List Int) : dropE (acc ++ [now]) = if now = [] then acc else acc ++ [now] := by
  unfold dropE
  have : (acc ++ [now]).getLastD [] = now := by rw [List.getLastD_eq_getLast?, List.getLast?_append]; rfl
  rw [this]
  by_cases e : now = []
  · rw [if_pos e, if_pos e]; simp
  · rw [if_neg e, if_neg e]
theorem txCells_snoc (T : List (List Int)) (t : List Int) : txCells (T ++ [t]) = txCells T ++ [.sl t.length (u8s t)] := by simp [txCells, tx1]
theorem splitL_count (c : Int) (l : List Int) {acc : List (List Int)} {now : List Int} (h : splitL c l = acc ++ [now]) : acc.length ≤ l.length ∧ now.length ≤ l.length := by
  have h1 := splitL_len c l
  have h2 : l.count c ≤ l.length := List.count_le_length
  rw [h, List.length_append] at h1
  simp at h1
  have h3 : now ∈ splitL c l := by rw [h]; simp
  have h4 := splitL_mem h3
  omega
/-- Where the data are, in bytes. -/
theorem rawM_drop (b : List Int) : rawM b = upTo 29 (b.drop (25 + (linesM b).length)) := by
  unfold rawM; rw [List.drop_drop]; congr 2; omega
end Go.Proofs.YteapibifebnboaaDoor
