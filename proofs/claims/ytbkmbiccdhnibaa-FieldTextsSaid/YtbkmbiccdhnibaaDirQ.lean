/- When faults, entries and indicators are equal. -/
import Derived.Test.YtbkmbiccdhnibaaEngT
import Derived.Test.YtbkmbiccdhnibaaE16
set_option linter.unusedVariables false
namespace Go.Proofs.Ytbkmbiccdhnibaa
open Go Go.Eng
theorem eqFault (a b c d : Int) : aeq Try.prog 6 27 [.int .i64 a, .int .i64 b] [.int .i64 c, .int .i64 d] = some ((a == c) && ((b == d) && true)) := by kernel_rfl
theorem eqEntry (s s' : List Int) (a b c d : Int) : aeq Try.prog 6 31 [.str s, .int .i64 a, .int .i64 b] [.str s', .int .i64 c, .int .i64 d] = some ((s == s') && ((a == c) && ((b == d) && true))) := by kernel_rfl
theorem eqgFault : Try.prog.eqGuardType Try.prog.depth 27 = false := by kernel_rfl
theorem eqgEntry : Try.prog.eqGuardType Try.prog.depth 31 = false := by kernel_rfl
theorem rowFault : rowT Try.prog 27 = true := by kernel_rfl
theorem rowEntry : rowT Try.prog 31 = true := by kernel_rfl
attribute [push_cast high] eqFault eqEntry eqgFault eqgEntry rowFault rowEntry
end Go.Proofs.Ytbkmbiccdhnibaa
