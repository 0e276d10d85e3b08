/- mend: what MendRight is handed, as its row reads it. -/
import Derived.Test.YteapibifebnboaaDoorMndT
set_option linter.unusedVariables false
namespace Go.Proofs.YteapibifebnboaaDoor
open Go Go.Eng
theorem MendRight_call {a : AV} (h : ∃ l : List Int, (∀ c ∈ l, 0 ≤ c ∧ c < 256) ∧ l.length ≤ 140737488351232 ∧ [a] = [.sl l.length (u8s l)]) : ACall Tryd.prog 4 [a] (.bool true) none := by
  obtain ⟨l, h1, h2, e⟩ := h
  cases e
  exact MendRight_c l h1 h2
end Go.Proofs.YteapibifebnboaaDoor
