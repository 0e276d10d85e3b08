/- Each type: its zero, its cells, its bytes. -/
import Derived.Test.YteapibifebnboaaDoorProg
import Derived.Test.YteapibifebnboaaDoorGEc
import Derived.KernelRfl
set_option linter.unusedSimpArgs false
namespace Go.Proofs.YteapibifebnboaaDoor
open Go.Eng Go
theorem ti2 : ti Tryd.prog 2 = some (some (.int .i64 0), 1, 8) := by kernel_rfl
theorem zc2 : zc Tryd.prog 2 = some ([.int .i64 0], 1, 8) := by simp [zc, ti2, zcells, Value.cells, Value.oneCell', absV, bytesOf]
theorem ti3 : ti Tryd.prog 3 = some (some (.int .i64 0), 1, 8) := by kernel_rfl
theorem zc3 : zc Tryd.prog 3 = some ([.int .i64 0], 1, 8) := by simp [zc, ti3, zcells, Value.cells, Value.oneCell', absV, bytesOf]
theorem ti4 : ti Tryd.prog 4 = some (some (.bool false), 1, 1) := by kernel_rfl
theorem zc4 : zc Tryd.prog 4 = some ([.bool false], 1, 1) := by simp [zc, ti4, zcells, Value.cells, Value.oneCell', absV, bytesOf]
theorem ti5 : ti Tryd.prog 5 = some (some (.int .u8 0), 1, 1) := by kernel_rfl
theorem zc5 : zc Tryd.prog 5 = some ([.int .u8 0], 1, 1) := by simp [zc, ti5, zcells, Value.cells, Value.oneCell', absV, bytesOf]
theorem ti6 : ti Tryd.prog 6 = some (some (.int .u8 0), 1, 1) := by kernel_rfl
theorem zc6 : zc Tryd.prog 6 = some ([.int .u8 0], 1, 1) := by simp [zc, ti6, zcells, Value.cells, Value.oneCell', absV, bytesOf]
theorem ti7 : ti Tryd.prog 7 = some (some (.agg #[(.int .i64 0), (.int .i64 0), (.bool false), (.int .u8 0)]), 4, 24) := by kernel_rfl
theorem zc7 : zc Tryd.prog 7 = some ([.int .i64 0, .int .i64 0, .bool false, .int .u8 0], 4, 24) := by simp [zc, ti7, zcells, Value.cells, Value.oneCell', absV, bytesOf]
theorem ti8 : ti Tryd.prog 8 = some (some (.agg #[(.int .i64 0), (.int .i64 0), (.bool false), (.int .u8 0)]), 4, 24) := by kernel_rfl
theorem zc8 : zc Tryd.prog 8 = some ([.int .i64 0, .int .i64 0, .bool false, .int .u8 0], 4, 24) := by simp [zc, ti8, zcells, Value.cells, Value.oneCell', absV, bytesOf]
theorem ti9 : ti Tryd.prog 9 = some (some (.string ⟨#[]⟩), 1, 16) := by kernel_rfl
theorem zc9 : zc Tryd.prog 9 = some ([.str []], 1, 16) := by simp [zc, ti9, zcells, Value.cells, Value.oneCell', absV, bytesOf]
theorem ti10 : ti Tryd.prog 10 = some (some (.string ⟨#[]⟩), 1, 16) := by kernel_rfl
theorem zc10 : zc Tryd.prog 10 = some ([.str []], 1, 16) := by simp [zc, ti10, zcells, Value.cells, Value.oneCell', absV, bytesOf]
theorem ti11 : ti Tryd.prog 11 = some (some (.string ⟨#[]⟩), 1, 16) := by kernel_rfl
theorem zc11 : zc Tryd.prog 11 = some ([.str []], 1, 16) := by simp [zc, ti11, zcells, Value.cells, Value.oneCell', absV, bytesOf]
theorem ti12 : ti Tryd.prog 12 = some (some (.int .u64 0), 1, 8) := by kernel_rfl
theorem zc12 : zc Tryd.prog 12 = some ([.int .u64 0], 1, 8) := by simp [zc, ti12, zcells, Value.cells, Value.oneCell', absV, bytesOf]
theorem ti13 : ti Tryd.prog 13 = some (some (.agg #[(.string ⟨#[]⟩), (.int .u64 0)]), 2, 24) := by kernel_rfl
theorem zc13 : zc Tryd.prog 13 = some ([.str [], .int .u64 0], 2, 24) := by simp [zc, ti13, zcells, Value.cells, Value.oneCell', absV, bytesOf]
theorem ti14 : ti Tryd.prog 14 = some (some (.agg #[(.string ⟨#[]⟩), (.int .u64 0)]), 2, 24) := by kernel_rfl
theorem zc14 : zc Tryd.prog 14 = some ([.str [], .int .u64 0], 2, 24) := by simp [zc, ti14, zcells, Value.cells, Value.oneCell', absV, bytesOf]
theorem ti15 : ti Tryd.prog 15 = some (some (.pointer none), 1, 8) := by kernel_rfl
theorem zc15 : zc Tryd.prog 15 = some ([.nilP], 1, 8) := by simp [zc, ti15, zcells, Value.cells, Value.oneCell', absV, bytesOf]
theorem ti16 : ti Tryd.prog 16 = some (some (.pointer none), 1, 8) := by kernel_rfl
theorem zc16 : zc Tryd.prog 16 = some ([.nilP], 1, 8) := by simp [zc, ti16, zcells, Value.cells, Value.oneCell', absV, bytesOf]
theorem ti17 : ti Tryd.prog 17 = some (some (.pointer none), 1, 8) := by kernel_rfl
theorem zc17 : zc Tryd.prog 17 = some ([.nilP], 1, 8) := by simp [zc, ti17, zcells, Value.cells, Value.oneCell', absV, bytesOf]
theorem ti18 : ti Tryd.prog 18 = some (some (.agg #[(.pointer none)]), 1, 8) := by kernel_rfl
theorem zc18 : zc Tryd.prog 18 = some ([.nilP], 1, 8) := by simp [zc, ti18, zcells, Value.cells, Value.oneCell', absV, bytesOf]
theorem ti19 : ti Tryd.prog 19 = some (some (.agg #[(.pointer none)]), 1, 8) := by kernel_rfl
theorem zc19 : zc Tryd.prog 19 = some ([.nilP], 1, 8) := by simp [zc, ti19, zcells, Value.cells, Value.oneCell', absV, bytesOf]
theorem ti21 : ti Tryd.prog 21 = some (some (.int .i32 0), 1, 4) := by kernel_rfl
theorem zc21 : zc Tryd.prog 21 = some ([.int .i32 0], 1, 4) := by simp [zc, ti21, zcells, Value.cells, Value.oneCell', absV, bytesOf]
theorem ti22 : ti Tryd.prog 22 = some (some (.slice none 0 0), 1, 24) := by kernel_rfl
theorem zc22 : zc Tryd.prog 22 = some ([.nilS], 1, 24) := by simp [zc, ti22, zcells, Value.cells, Value.oneCell', absV, bytesOf]
theorem ti28 : ti Tryd.prog 28 = some (some (.slice none 0 0), 1, 24) := by kernel_rfl
theorem zc28 : zc Tryd.prog 28 = some ([.nilS], 1, 24) := by simp [zc, ti28, zcells, Value.cells, Value.oneCell', absV, bytesOf]
theorem ti29 : ti Tryd.prog 29 = some (some (.agg #[(.string ⟨#[]⟩), (.slice none 0 0)]), 2, 40) := by kernel_rfl
theorem zc29 : zc Tryd.prog 29 = some ([.str [], .nilS], 2, 40) := by simp [zc, ti29, zcells, Value.cells, Value.oneCell', absV, bytesOf]
theorem ti30 : ti Tryd.prog 30 = some (some (.agg #[(.string ⟨#[]⟩), (.slice none 0 0)]), 2, 40) := by kernel_rfl
theorem zc30 : zc Tryd.prog 30 = some ([.str [], .nilS], 2, 40) := by simp [zc, ti30, zcells, Value.cells, Value.oneCell', absV, bytesOf]
theorem ti31 : ti Tryd.prog 31 = some (some (.int .i64 0), 1, 8) := by kernel_rfl
theorem zc31 : zc Tryd.prog 31 = some ([.int .i64 0], 1, 8) := by simp [zc, ti31, zcells, Value.cells, Value.oneCell', absV, bytesOf]
theorem ti32 : ti Tryd.prog 32 = some (some (.agg #[(.int .i64 0), (.int .i64 0)]), 2, 16) := by kernel_rfl
theorem zc32 : zc Tryd.prog 32 = some ([.int .i64 0, .int .i64 0], 2, 16) := by simp [zc, ti32, zcells, Value.cells, Value.oneCell', absV, bytesOf]
theorem ti33 : ti Tryd.prog 33 = some (some (.agg #[(.int .i64 0), (.int .i64 0)]), 2, 16) := by kernel_rfl
theorem zc33 : zc Tryd.prog 33 = some ([.int .i64 0, .int .i64 0], 2, 16) := by simp [zc, ti33, zcells, Value.cells, Value.oneCell', absV, bytesOf]
theorem ti37 : ti Tryd.prog 37 = some (some (.agg #[(.int .u8 0), (.int .u8 0)]), 2, 2) := by kernel_rfl
theorem zc37 : zc Tryd.prog 37 = some ([.int .u8 0, .int .u8 0], 2, 2) := by simp [zc, ti37, zcells, Value.cells, Value.oneCell', absV, bytesOf]
theorem ti38 : ti Tryd.prog 38 = some (some (.slice none 0 0), 1, 24) := by kernel_rfl
theorem zc38 : zc Tryd.prog 38 = some ([.nilS], 1, 24) := by simp [zc, ti38, zcells, Value.cells, Value.oneCell', absV, bytesOf]
theorem ti39 : ti Tryd.prog 39 = some (some (.agg #[(.string ⟨#[]⟩), (.slice none 0 0), (.int .u8 0), (.int .u8 0), (.slice none 0 0)]), 5, 72) := by kernel_rfl
theorem zc39 : zc Tryd.prog 39 = some ([.str [], .nilS, .int .u8 0, .int .u8 0, .nilS], 5, 72) := by simp [zc, ti39, zcells, Value.cells, Value.oneCell', absV, bytesOf]
theorem ti40 : ti Tryd.prog 40 = some (some (.agg #[(.string ⟨#[]⟩), (.slice none 0 0), (.int .u8 0), (.int .u8 0), (.slice none 0 0)]), 5, 72) := by kernel_rfl
theorem zc40 : zc Tryd.prog 40 = some ([.str [], .nilS, .int .u8 0, .int .u8 0, .nilS], 5, 72) := by simp [zc, ti40, zcells, Value.cells, Value.oneCell', absV, bytesOf]
theorem ti42 : ti Tryd.prog 42 = some (some (.slice none 0 0), 1, 24) := by kernel_rfl
theorem zc42 : zc Tryd.prog 42 = some ([.nilS], 1, 24) := by simp [zc, ti42, zcells, Value.cells, Value.oneCell', absV, bytesOf]
theorem ti43 : ti Tryd.prog 43 = some (some (.agg #[(.int .u8 0), (.slice none 0 0)]), 2, 32) := by kernel_rfl
theorem zc43 : zc Tryd.prog 43 = some ([.int .u8 0, .nilS], 2, 32) := by simp [zc, ti43, zcells, Value.cells, Value.oneCell', absV, bytesOf]
theorem ti44 : ti Tryd.prog 44 = some (some (.agg #[(.int .u8 0), (.slice none 0 0)]), 2, 32) := by kernel_rfl
theorem zc44 : zc Tryd.prog 44 = some ([.int .u8 0, .nilS], 2, 32) := by simp [zc, ti44, zcells, Value.cells, Value.oneCell', absV, bytesOf]
theorem ti47 : ti Tryd.prog 47 = some (some (.slice none 0 0), 1, 24) := by kernel_rfl
theorem zc47 : zc Tryd.prog 47 = some ([.nilS], 1, 24) := by simp [zc, ti47, zcells, Value.cells, Value.oneCell', absV, bytesOf]
theorem ti60 : ti Tryd.prog 60 = some (some (.slice none 0 0), 1, 24) := by kernel_rfl
theorem zc60 : zc Tryd.prog 60 = some ([.nilS], 1, 24) := by simp [zc, ti60, zcells, Value.cells, Value.oneCell', absV, bytesOf]
theorem ti63 : ti Tryd.prog 63 = some (some (.agg #[(.string ⟨#[]⟩), (.int .i64 0), (.int .i64 0)]), 3, 32) := by kernel_rfl
theorem zc63 : zc Tryd.prog 63 = some ([.str [], .int .i64 0, .int .i64 0], 3, 32) := by simp [zc, ti63, zcells, Value.cells, Value.oneCell', absV, bytesOf]
theorem ti64 : ti Tryd.prog 64 = some (some (.agg #[(.string ⟨#[]⟩), (.int .i64 0), (.int .i64 0)]), 3, 32) := by kernel_rfl
theorem zc64 : zc Tryd.prog 64 = some ([.str [], .int .i64 0, .int .i64 0], 3, 32) := by simp [zc, ti64, zcells, Value.cells, Value.oneCell', absV, bytesOf]
theorem ti83 : ti Tryd.prog 83 = some (some (.int .u64 0), 1, 8) := by kernel_rfl
theorem zc83 : zc Tryd.prog 83 = some ([.int .u64 0], 1, 8) := by simp [zc, ti83, zcells, Value.cells, Value.oneCell', absV, bytesOf]
theorem ti94 : ti Tryd.prog 94 = some (some (.int .u32 0), 1, 4) := by kernel_rfl
theorem zc94 : zc Tryd.prog 94 = some ([.int .u32 0], 1, 4) := by simp [zc, ti94, zcells, Value.cells, Value.oneCell', absV, bytesOf]
theorem ti97 : ti Tryd.prog 97 = some (some (.int .u64 0), 1, 8) := by kernel_rfl
theorem zc97 : zc Tryd.prog 97 = some ([.int .u64 0], 1, 8) := by simp [zc, ti97, zcells, Value.cells, Value.oneCell', absV, bytesOf]
theorem ti116 : ti Tryd.prog 116 = some (some (.agg #[(.int .u8 0), (.int .u8 0)]), 2, 2) := by kernel_rfl
theorem zc116 : zc Tryd.prog 116 = some ([.int .u8 0, .int .u8 0], 2, 2) := by simp [zc, ti116, zcells, Value.cells, Value.oneCell', absV, bytesOf]
theorem ti117 : ti Tryd.prog 117 = some (some (.agg #[(.int .u8 0), (.int .u8 0)]), 2, 2) := by kernel_rfl
theorem zc117 : zc Tryd.prog 117 = some ([.int .u8 0, .int .u8 0], 2, 2) := by simp [zc, ti117, zcells, Value.cells, Value.oneCell', absV, bytesOf]
theorem ti118 : ti Tryd.prog 118 = some (some (.agg #[(.int .u8 0), (.int .u8 0), (.int .u8 0), (.int .u8 0), (.int .u8 0), (.int .u8 0), (.int .u8 0), (.int .u8 0), (.int .u8 0), (.int .u8 0), (.int .u8 0), (.int .u8 0), (.int .u8 0), (.int .u8 0), (.int .u8 0), (.int .u8 0), (.int .u8 0), (.int .u8 0), (.int .u8 0), (.int .u8 0), (.int .u8 0), (.int .u8 0), (.int .u8 0), (.int .u8 0), (.int .u8 0), (.int .u8 0), (.int .u8 0), (.int .u8 0), (.int .u8 0), (.int .u8 0), (.int .u8 0), (.int .u8 0)]), 32, 32) := by kernel_rfl
theorem zc118 : zc Tryd.prog 118 = some ([.int .u8 0, .int .u8 0, .int .u8 0, .int .u8 0, .int .u8 0, .int .u8 0, .int .u8 0, .int .u8 0, .int .u8 0, .int .u8 0, .int .u8 0, .int .u8 0, .int .u8 0, .int .u8 0, .int .u8 0, .int .u8 0, .int .u8 0, .int .u8 0, .int .u8 0, .int .u8 0, .int .u8 0, .int .u8 0, .int .u8 0, .int .u8 0, .int .u8 0, .int .u8 0, .int .u8 0, .int .u8 0, .int .u8 0, .int .u8 0, .int .u8 0, .int .u8 0], 32, 32) := by simp [zc, ti118, zcells, Value.cells, Value.oneCell', absV, bytesOf]
theorem ti120 : ti Tryd.prog 120 = some (some (.agg #[(.pointer none), (.pointer none), (.pointer none), (.string ⟨#[]⟩)]), 4, 40) := by kernel_rfl
theorem zc120 : zc Tryd.prog 120 = some ([.nilP, .nilP, .nilP, .str []], 4, 40) := by simp [zc, ti120, zcells, Value.cells, Value.oneCell', absV, bytesOf]
theorem ti121 : ti Tryd.prog 121 = some (some (.agg #[(.pointer none), (.pointer none), (.pointer none), (.string ⟨#[]⟩)]), 4, 40) := by kernel_rfl
theorem zc121 : zc Tryd.prog 121 = some ([.nilP, .nilP, .nilP, .str []], 4, 40) := by simp [zc, ti121, zcells, Value.cells, Value.oneCell', absV, bytesOf]
theorem ti122 : ti Tryd.prog 122 = some (some (.agg #[]), 0, 0) := by kernel_rfl
theorem zc122 : zc Tryd.prog 122 = some ([], 0, 0) := by simp [zc, ti122, zcells, Value.cells, Value.oneCell', absV, bytesOf]
theorem ti123 : ti Tryd.prog 123 = some (some (.agg #[]), 0, 0) := by kernel_rfl
theorem zc123 : zc Tryd.prog 123 = some ([], 0, 0) := by simp [zc, ti123, zcells, Value.cells, Value.oneCell', absV, bytesOf]
theorem ti124 : ti Tryd.prog 124 = some (some (.agg #[]), 0, 0) := by kernel_rfl
theorem zc124 : zc Tryd.prog 124 = some ([], 0, 0) := by simp [zc, ti124, zcells, Value.cells, Value.oneCell', absV, bytesOf]
theorem ti126 : ti Tryd.prog 126 = some (some (.int .u8 0), 1, 1) := by kernel_rfl
theorem zc126 : zc Tryd.prog 126 = some ([.int .u8 0], 1, 1) := by simp [zc, ti126, zcells, Value.cells, Value.oneCell', absV, bytesOf]
theorem ti127 : ti Tryd.prog 127 = some (some (.int .u8 0), 1, 1) := by kernel_rfl
theorem zc127 : zc Tryd.prog 127 = some ([.int .u8 0], 1, 1) := by simp [zc, ti127, zcells, Value.cells, Value.oneCell', absV, bytesOf]
theorem ti129 : ti Tryd.prog 129 = some (some (.pointer none), 1, 8) := by kernel_rfl
theorem zc129 : zc Tryd.prog 129 = some ([.nilP], 1, 8) := by simp [zc, ti129, zcells, Value.cells, Value.oneCell', absV, bytesOf]
theorem ti130 : ti Tryd.prog 130 = some (some (.int .i32 0), 1, 4) := by kernel_rfl
theorem zc130 : zc Tryd.prog 130 = some ([.int .i32 0], 1, 4) := by simp [zc, ti130, zcells, Value.cells, Value.oneCell', absV, bytesOf]
theorem ti131 : ti Tryd.prog 131 = some (some (.int .i32 0), 1, 4) := by kernel_rfl
theorem zc131 : zc Tryd.prog 131 = some ([.int .i32 0], 1, 4) := by simp [zc, ti131, zcells, Value.cells, Value.oneCell', absV, bytesOf]
theorem mixed : Tryd.prog.follows .mixedOrders = true := by kernel_rfl
attribute [push_cast] ti2 zc2 Tryd.underlying2 ti3 zc3 Tryd.underlying3 ti4 zc4 Tryd.underlying4 ti5 zc5 Tryd.underlying5 ti6 zc6 Tryd.underlying6 ti7 zc7 Tryd.underlying7 ti8 zc8 Tryd.underlying8 ti9 zc9 Tryd.underlying9 ti10 zc10 Tryd.underlying10 ti11 zc11 Tryd.underlying11 ti12 zc12 Tryd.underlying12 ti13 zc13 Tryd.underlying13 ti14 zc14 Tryd.underlying14 ti15 zc15 Tryd.underlying15 ti16 zc16 Tryd.underlying16 ti17 zc17 Tryd.underlying17 ti18 zc18 Tryd.underlying18 ti19 zc19 Tryd.underlying19 ti21 zc21 Tryd.underlying21 ti22 zc22 Tryd.underlying22 ti28 zc28 Tryd.underlying28 ti29 zc29 Tryd.underlying29 ti30 zc30 Tryd.underlying30 ti31 zc31 Tryd.underlying31 ti32 zc32 Tryd.underlying32 ti33 zc33 Tryd.underlying33 ti37 zc37 Tryd.underlying37 ti38 zc38 Tryd.underlying38 ti39 zc39 Tryd.underlying39 ti40 zc40 Tryd.underlying40 ti42 zc42 Tryd.underlying42 ti43 zc43 Tryd.underlying43 ti44 zc44 Tryd.underlying44 ti47 zc47 Tryd.underlying47 ti60 zc60 Tryd.underlying60 ti63 zc63 Tryd.underlying63 ti64 zc64 Tryd.underlying64 ti83 zc83 Tryd.underlying83 ti94 zc94 Tryd.underlying94 ti97 zc97 Tryd.underlying97 ti116 zc116 Tryd.underlying116 ti117 zc117 Tryd.underlying117 ti118 zc118 Tryd.underlying118 ti120 zc120 Tryd.underlying120 ti121 zc121 Tryd.underlying121 ti122 zc122 Tryd.underlying122 ti123 zc123 Tryd.underlying123 ti124 zc124 Tryd.underlying124 ti126 zc126 Tryd.underlying126 ti127 zc127 Tryd.underlying127 ti129 zc129 Tryd.underlying129 ti130 zc130 Tryd.underlying130 ti131 zc131 Tryd.underlying131 mixed
end Go.Proofs.YteapibifebnboaaDoor
