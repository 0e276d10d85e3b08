/- mend: what is handed in, as the rows read it. -/
import Derived.Test.YteapibifebnboaaDoorMndN
set_option linter.unusedVariables false
namespace Go.Proofs.YteapibifebnboaaDoor
open Go Go.Eng
theorem MendLead_call {a : AV} (h : ∃ l : List Int, (∀ c ∈ l, 0 ≤ c ∧ c < 256) ∧ l.length ≤ 140737488351232 ∧ [a] = [.sl l.length (u8s l)]) : ACall Tryd.prog 7 [a] (.bool true) none := by
  obtain ⟨l, h1, h2, e⟩ := h
  cases e
  exact MendLead_c l h1 h2
end Go.Proofs.YteapibifebnboaaDoor
