/- mend: what MendKeeps is handed, as its row reads it. -/
import Derived.Test.YteapibifebnboaaDoorMndKp
set_option linter.unusedVariables false
namespace Go.Proofs.YteapibifebnboaaDoor
open Go Go.Eng
theorem u8_bounds {n : Int} (h : IntKind.u8.min ≤ n ∧ n ≤ IntKind.u8.max) : 0 ≤ n ∧ n < 256 := by
  have h1 : IntKind.u8.min = 0 := by decide
  have h2 : IntKind.u8.max = 255 := by decide
  omega
theorem MendKeeps_call {a b c : AV} (h : ∃ l : List Int, (∀ c ∈ l, 0 ≤ c ∧ c < 256) ∧ l.length ≤ 140737488351232 ∧ [a] = [.sl l.length (u8s l)]) (hb : ∃ n : Int, (IntKind.u8.min ≤ n ∧ n ≤ IntKind.u8.max) ∧ [b] = [.int .u8 n])
    (hc : ∃ n : Int, (IntKind.u8.min ≤ n ∧ n ≤ IntKind.u8.max) ∧ [c] = [.int .u8 n]) : ACall Tryd.prog 5 [a, b, c] (.bool true) none := by
  obtain ⟨l, h1, h2, e⟩ := h
  obtain ⟨n, h3, e2⟩ := hb
  obtain ⟨m, h4, e3⟩ := hc
  cases e; cases e2; cases e3
  exact MendKeeps_c l h1 h2 n (u8_bounds h3) m (u8_bounds h4)
end Go.Proofs.YteapibifebnboaaDoor
