/- field: what is handed in, with its bytes' range. -/
import Derived.Test.YtbkmbiccdhnibaaFldT
import Derived.Test.YtbkmbiccdhnibaaFldN
set_option linter.unusedVariables false
namespace Go.Proofs.Ytbkmbiccdhnibaa
open Go Go.Eng
theorem u8s_inj {a b : List Int} (h : u8s a = u8s b) : a = b := by
  have : ∀ {a b : List Int}, u8s a = u8s b → a = b := by
    intro a
    induction a with
    | nil => intro b h; cases b with
      | nil => rfl
      | cons c b => simp [u8s] at h
    | cons c a ih =>
      intro b h
      cases b with
      | nil => simp [u8s] at h
      | cons d b =>
        simp only [u8s, List.map_cons, List.cons.injEq, AV.int.injEq, true_and] at h
        rw [h.1, ih h.2]
  exact this h
theorem opensSubB {H : Type} : OpensW Try.prog H 57 fun xs => ∃ s : SubV, (s.2.length ≤ 140737488351232 ∧ (0 ≤ s.1 ∧ s.1 < 256) ∧ inB s.2) ∧ xs = sCells s := by
  refine (opens_struct2W Try.underlying57 (opens_intW Try.underlying5) opensTextW (by kernel_rfl) (by kernel_rfl) (by kernel_rfl)).imp ?_
  rintro xs ⟨a, b, ⟨n, hn, rfl⟩, ⟨l, l1, l2, rfl⟩, rfl⟩
  exact ⟨(n, l), ⟨l2, ⟨hn.1, by have : n ≤ 255 := hn.2; show n < 256; omega⟩, l1⟩, rfl⟩
theorem opensSubsB {H : Type} : OpensW Try.prog H 40 fun xs => ∃ L : List SubV, (∀ s ∈ L, s.2.length ≤ 140737488351232 ∧ (0 ≤ s.1 ∧ s.1 < 256) ∧ inB s.2) ∧ L.length ≤ 140737488351232 ∧ xs = [.sl L.length (subCells L)] := by
  refine (opens_sliceW (s := 2) Try.underlying40 (by kernel_rfl) (by omega) (of_decide_eq_true (by kernel_rfl)) opensSubB).imp ?_
  rintro xs ⟨els, h1, h2, rfl⟩
  obtain ⟨L, rfl⟩ := all_form (f := sCells) h1 fun c hc => let ⟨⟨s, _, h⟩, _⟩ := hc; ⟨s, h⟩
  refine ⟨L, fun s hs => ?_, by simpa using h2, by rw [List.length_map]; rfl⟩
  obtain ⟨⟨s', l1, h⟩, _⟩ := h1 (sCells s) (List.mem_map.2 ⟨s, hs, rfl⟩)
  simp only [sCells, List.cons.injEq, AV.int.injEq, AV.sl.injEq, true_and, and_true] at h
  rw [u8s_inj h.2.2, h.1]; exact l1
theorem opensFieldB {H : Type} : OpensW Try.prog H 42 fun xs => ∃ f : FV, f.tag.length ≤ 140737488351232 ∧ f.text.length ≤ 140737488351232 ∧ (∀ s ∈ f.subs, s.2.length ≤ 140737488351232) ∧ f.subs.length ≤ 140737488351232 ∧ FB f ∧ xs = fCells f := by
  refine (opens_struct4W Try.underlying42 (opens_strW Try.underlying9) opensTextW (opens_two Try.underlying39 Try.underlying5 (by kernel_rfl) (by kernel_rfl)) opensSubsB (by kernel_rfl) (by kernel_rfl) (by kernel_rfl) (by kernel_rfl) (by kernel_rfl)).imp ?_
  rintro xs ⟨a, b, c, d, ⟨tag, _, t2, rfl⟩, ⟨tx, x1, x2, rfl⟩, ⟨i, j, rfl⟩, ⟨L, l1, l2, rfl⟩, rfl⟩
  exact ⟨⟨tag, tx, i, j, L⟩, t2, x2, fun s hs => (l1 s hs).1, l2, ⟨x1, fun s hs => (l1 s hs).2⟩, rfl⟩
theorem FieldPrints_call {xs : List AV} (h : ∃ f : FV, f.tag.length ≤ 140737488351232 ∧ f.text.length ≤ 140737488351232 ∧ (∀ s ∈ f.subs, s.2.length ≤ 140737488351232) ∧ f.subs.length ≤ 140737488351232 ∧ FB f ∧ xs = fCells f) :
    ACall Try.prog 8 [.agg xs] (.bool true) none := by
  obtain ⟨f, h1, h2, h3, h4, h5, rfl⟩ := h
  exact FieldPrints_c f h1 h2 h3 h4 h5
theorem opensStrW {H : Type} : OpensW Try.prog H 9 fun xs => ∃ l : List Int, (∀ c ∈ l, 0 ≤ c ∧ c < 256) ∧ l.length ≤ 140737488351232 ∧ xs = [.str l] := opens_strW Try.underlying9
theorem FieldParses_call {a b : AV} (h : ∃ l : List Int, (∀ c ∈ l, 0 ≤ c ∧ c < 256) ∧ l.length ≤ 140737488351232 ∧ [a] = [.str l]) (k : ∃ l : List Int, (∀ c ∈ l, 0 ≤ c ∧ c < 256) ∧ l.length ≤ 140737488351232 ∧ [b] = [.sl l.length (u8s l)]) :
    ACall Try.prog 7 [a, b] (.bool true) none := by
  obtain ⟨tag, _, h2, e⟩ := h
  cases e
  obtain ⟨l, k1, k2, e⟩ := k
  cases e
  exact FieldParses_c tag l h2 k2 k1
end Go.Proofs.Ytbkmbiccdhnibaa
