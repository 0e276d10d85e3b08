/- FieldKeeps: what is handed in, where it is of small bulk. -/
import Derived.Test.YteapibifebnboaaFkD
import Derived.Test.YteapibifebnboaaGFe
import Derived.Test.YteapibifebnboaaE24
import Derived.Test.YteapibifebnboaaRows
set_option linter.unusedVariables false
namespace Go.Proofs.Yteapibifebnboaa
open Go Go.Eng
theorem bulk_one {H : Type} (d : DataW H) : 1 ≤ Rows.uptoBulk d := by
  cases d with
  | lit l => cases l <;> simp [Rows.uptoBulk]
  | _ => simp [Rows.uptoBulk]
theorem bulk_part {H : Type} {d : DataW H} {l : List (DataW H)} (h : d ∈ l) : Rows.uptoBulk d ≤ Rows.uptoBulkAll l := by
  induction l with
  | nil => cases h
  | cons x r ih =>
    simp only [Rows.uptoBulkAll]
    rcases List.mem_cons.1 h with e | e
    · subst e; omega
    · have := ih e; omega
theorem bulk_len {H : Type} (l : List (DataW H)) : l.length ≤ Rows.uptoBulkAll l := by
  induction l with
  | nil => simp [Rows.uptoBulkAll]
  | cons x r ih => have := bulk_one x; simp only [Rows.uptoBulkAll, List.length_cons]; omega
def SmallB {H : Type} (d : DataW H) : Prop := Rows.uptoBulk d ≤ 1048576
theorem smallB_slice {H : Type} (elems spare : List (DataW H)) (h : SmallB (.slice elems spare)) : elems.length ≤ 1048576 ∧ ∀ d ∈ elems, SmallB d := by
  unfold SmallB at h
  simp only [Rows.uptoBulk] at h
  refine ⟨by have := bulk_len elems; omega, fun d hd => ?_⟩
  have := bulk_part hd
  show Rows.uptoBulk d ≤ _
  omega
theorem opensTextsK {H : Type} : OpensK (SmallB (H := H)) Try.prog H 52 fun xs => ∃ T : List (List Int), (∀ t ∈ T, inB t ∧ t.length ≤ 1048576) ∧ T.length ≤ 1048576 ∧ xs = [.sl T.length (txCells T)] := by
  refine (opens_sliceK (s := 1) Try.underlying52 (by kernel_rfl) (by omega) smallB_slice (opens_bytesK Try.underlying22 Try.underlying5 (by kernel_rfl) smallB_slice)).imp ?_
  rintro xs ⟨els, h1, h2, rfl⟩
  obtain ⟨T, rfl⟩ := all_form (f := fun t => [tx1 t]) h1 fun c hc => let ⟨⟨l, _, _, h⟩, _⟩ := hc; ⟨l, h⟩
  refine ⟨T, fun t ht => ?_, by simpa using h2, by rw [List.length_map, txCells_flat]⟩
  obtain ⟨⟨l, l1, l2, h⟩, _⟩ := h1 [tx1 t] (List.mem_map.2 ⟨t, ht, rfl⟩)
  simp only [tx1, List.cons.injEq, AV.sl.injEq, and_true] at h
  rw [u8s_inj h.2]; exact ⟨l1, l2⟩
theorem FieldKeeps_call {xs : List AV} {b : AV} (h : ∃ f : FV, f.tag.length ≤ 140737488351232 ∧ f.text.length ≤ 140737488351232 ∧ (∀ s ∈ f.subs, s.2.length ≤ 140737488351232) ∧ f.subs.length ≤ 140737488351232 ∧ FB f ∧ xs = fCells f)
    (k : ∃ T : List (List Int), (∀ t ∈ T, inB t ∧ t.length ≤ 1048576) ∧ T.length ≤ 1048576 ∧ [b] = [.sl T.length (txCells T)]) :
    ACall Try.prog 10 [.agg xs, b] (.bool true) none := by
  obtain ⟨f, h1, h2, h3, h4, h5, rfl⟩ := h
  obtain ⟨T, k1, k2, e⟩ := k
  cases e
  exact FieldKeeps_c f T h1 h2 h3 h4 h5 k1 (by omega)
end Go.Proofs.Yteapibifebnboaa
