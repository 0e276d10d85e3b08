/- mend: what MendFields is handed, as its row reads it. -/
import Derived.Test.YteapibifebnboaaDoorMndV
set_option linter.unusedVariables false
namespace Go.Proofs.YteapibifebnboaaDoor
open Go Go.Eng
theorem MendFields_call {a : AV} (h : ∃ T : List (List Int), (∀ t ∈ T, inB t ∧ t.length ≤ 140737488351232) ∧ T.length ≤ 140737488351232 ∧ [a] = [.sl T.length (txCells T)]) : ACall Tryd.prog 6 [a] (.bool true) none := by
  obtain ⟨T, h1, h2, e⟩ := h
  cases e
  exact MendFields_c T h1 h2
end Go.Proofs.YteapibifebnboaaDoor
