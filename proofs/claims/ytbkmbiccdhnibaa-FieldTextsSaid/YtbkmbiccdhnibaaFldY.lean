/- FieldTexts: what is handed in. -/
import Derived.Test.YtbkmbiccdhnibaaFldX
import Derived.Test.YtbkmbiccdhnibaaFldU
set_option linter.unusedVariables false
namespace Go.Proofs.Ytbkmbiccdhnibaa
open Go Go.Eng
theorem txCells_flat (T : List (List Int)) : (T.map fun t => [tx1 t]).flatten = txCells T := by
  induction T with
  | nil => rfl
  | cons t T ih => show tx1 t :: (T.map fun t => [tx1 t]).flatten = tx1 t :: txCells T; rw [ih]
theorem opensTextsW {H : Type} : OpensW Try.prog H 52 fun xs => ∃ T : List (List Int), (∀ t ∈ T, inB t ∧ t.length ≤ 140737488351232) ∧ T.length ≤ 140737488351232 ∧ xs = [.sl T.length (txCells T)] := by
  refine (opens_sliceW (s := 1) Try.underlying52 (by kernel_rfl) (by omega) (of_decide_eq_true (by kernel_rfl)) opensTextW).imp ?_
  rintro xs ⟨els, h1, h2, rfl⟩
  obtain ⟨T, rfl⟩ := all_form (f := fun t => [tx1 t]) h1 fun c hc => let ⟨⟨l, _, _, h⟩, _⟩ := hc; ⟨l, h⟩
  refine ⟨T, fun t ht => ?_, by simpa using h2, by rw [List.length_map, txCells_flat]⟩
  obtain ⟨⟨l, l1, l2, h⟩, _⟩ := h1 [tx1 t] (List.mem_map.2 ⟨t, ht, rfl⟩)
  simp only [tx1, List.cons.injEq, AV.sl.injEq, and_true] at h
  rw [u8s_inj h.2]; exact ⟨l1, l2⟩
theorem FieldTexts_call {xs : List AV} {b : AV} (h : ∃ f : FV, f.tag.length ≤ 140737488351232 ∧ f.text.length ≤ 140737488351232 ∧ (∀ s ∈ f.subs, s.2.length ≤ 140737488351232) ∧ f.subs.length ≤ 140737488351232 ∧ FB f ∧ xs = fCells f)
    (k : ∃ T : List (List Int), (∀ t ∈ T, inB t ∧ t.length ≤ 140737488351232) ∧ T.length ≤ 140737488351232 ∧ [b] = [.sl T.length (txCells T)]) :
    ACall Try.prog 9 [.agg xs, b] (.bool true) none := by
  obtain ⟨f, h1, h2, h3, h4, h5, rfl⟩ := h
  obtain ⟨T, k1, k2, e⟩ := k
  cases e
  exact FieldTexts_c f T h1 h2 h3 h4 h5 k1 k2
end Go.Proofs.Ytbkmbiccdhnibaa
