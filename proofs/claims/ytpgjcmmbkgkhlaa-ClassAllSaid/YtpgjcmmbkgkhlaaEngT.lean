/- Each type: its zero, its cells, its bytes. -/
import Derived.Test.YtpgjcmmbkgkhlaaProg
import Derived.Test.YtpgjcmmbkgkhlaaE15
import Derived.KernelRfl
set_option linter.unusedSimpArgs false
namespace Go.Proofs.Ytpgjcmmbkgkhlaa
open Go.Eng Go
theorem ti2 : ti Try.prog 2 = some (some (.int .i64 0), 1, 8) := by kernel_rfl
theorem zc2 : zc Try.prog 2 = some ([.int .i64 0], 1, 8) := by simp [zc, ti2, zcells, Value.cells, Value.oneCell', absV, bytesOf]
theorem ti3 : ti Try.prog 3 = some (some (.int .i64 0), 1, 8) := by kernel_rfl
theorem zc3 : zc Try.prog 3 = some ([.int .i64 0], 1, 8) := by simp [zc, ti3, zcells, Value.cells, Value.oneCell', absV, bytesOf]
theorem ti4 : ti Try.prog 4 = some (some (.bool false), 1, 1) := by kernel_rfl
theorem zc4 : zc Try.prog 4 = some ([.bool false], 1, 1) := by simp [zc, ti4, zcells, Value.cells, Value.oneCell', absV, bytesOf]
theorem ti5 : ti Try.prog 5 = some (some (.int .u8 0), 1, 1) := by kernel_rfl
theorem zc5 : zc Try.prog 5 = some ([.int .u8 0], 1, 1) := by simp [zc, ti5, zcells, Value.cells, Value.oneCell', absV, bytesOf]
theorem ti6 : ti Try.prog 6 = some (some (.int .u8 0), 1, 1) := by kernel_rfl
theorem zc6 : zc Try.prog 6 = some ([.int .u8 0], 1, 1) := by simp [zc, ti6, zcells, Value.cells, Value.oneCell', absV, bytesOf]
theorem ti7 : ti Try.prog 7 = some (some (.agg #[(.int .i64 0), (.int .i64 0), (.bool false), (.int .u8 0)]), 4, 24) := by kernel_rfl
theorem zc7 : zc Try.prog 7 = some ([.int .i64 0, .int .i64 0, .bool false, .int .u8 0], 4, 24) := by simp [zc, ti7, zcells, Value.cells, Value.oneCell', absV, bytesOf]
theorem ti8 : ti Try.prog 8 = some (some (.agg #[(.int .i64 0), (.int .i64 0), (.bool false), (.int .u8 0)]), 4, 24) := by kernel_rfl
theorem zc8 : zc Try.prog 8 = some ([.int .i64 0, .int .i64 0, .bool false, .int .u8 0], 4, 24) := by simp [zc, ti8, zcells, Value.cells, Value.oneCell', absV, bytesOf]
theorem ti9 : ti Try.prog 9 = some (some (.string ⟨#[]⟩), 1, 16) := by kernel_rfl
theorem zc9 : zc Try.prog 9 = some ([.str []], 1, 16) := by simp [zc, ti9, zcells, Value.cells, Value.oneCell', absV, bytesOf]
theorem ti10 : ti Try.prog 10 = some (some (.string ⟨#[]⟩), 1, 16) := by kernel_rfl
theorem zc10 : zc Try.prog 10 = some ([.str []], 1, 16) := by simp [zc, ti10, zcells, Value.cells, Value.oneCell', absV, bytesOf]
theorem ti11 : ti Try.prog 11 = some (some (.string ⟨#[]⟩), 1, 16) := by kernel_rfl
theorem zc11 : zc Try.prog 11 = some ([.str []], 1, 16) := by simp [zc, ti11, zcells, Value.cells, Value.oneCell', absV, bytesOf]
theorem ti12 : ti Try.prog 12 = some (some (.int .u64 0), 1, 8) := by kernel_rfl
theorem zc12 : zc Try.prog 12 = some ([.int .u64 0], 1, 8) := by simp [zc, ti12, zcells, Value.cells, Value.oneCell', absV, bytesOf]
theorem ti13 : ti Try.prog 13 = some (some (.agg #[(.string ⟨#[]⟩), (.int .u64 0)]), 2, 24) := by kernel_rfl
theorem zc13 : zc Try.prog 13 = some ([.str [], .int .u64 0], 2, 24) := by simp [zc, ti13, zcells, Value.cells, Value.oneCell', absV, bytesOf]
theorem ti14 : ti Try.prog 14 = some (some (.agg #[(.string ⟨#[]⟩), (.int .u64 0)]), 2, 24) := by kernel_rfl
theorem zc14 : zc Try.prog 14 = some ([.str [], .int .u64 0], 2, 24) := by simp [zc, ti14, zcells, Value.cells, Value.oneCell', absV, bytesOf]
theorem ti15 : ti Try.prog 15 = some (some (.pointer none), 1, 8) := by kernel_rfl
theorem zc15 : zc Try.prog 15 = some ([.nilP], 1, 8) := by simp [zc, ti15, zcells, Value.cells, Value.oneCell', absV, bytesOf]
theorem ti16 : ti Try.prog 16 = some (some (.pointer none), 1, 8) := by kernel_rfl
theorem zc16 : zc Try.prog 16 = some ([.nilP], 1, 8) := by simp [zc, ti16, zcells, Value.cells, Value.oneCell', absV, bytesOf]
theorem ti17 : ti Try.prog 17 = some (some (.pointer none), 1, 8) := by kernel_rfl
theorem zc17 : zc Try.prog 17 = some ([.nilP], 1, 8) := by simp [zc, ti17, zcells, Value.cells, Value.oneCell', absV, bytesOf]
theorem ti18 : ti Try.prog 18 = some (some (.agg #[(.pointer none)]), 1, 8) := by kernel_rfl
theorem zc18 : zc Try.prog 18 = some ([.nilP], 1, 8) := by simp [zc, ti18, zcells, Value.cells, Value.oneCell', absV, bytesOf]
theorem ti19 : ti Try.prog 19 = some (some (.agg #[(.pointer none)]), 1, 8) := by kernel_rfl
theorem zc19 : zc Try.prog 19 = some ([.nilP], 1, 8) := by simp [zc, ti19, zcells, Value.cells, Value.oneCell', absV, bytesOf]
theorem ti21 : ti Try.prog 21 = some (some (.int .i32 0), 1, 4) := by kernel_rfl
theorem zc21 : zc Try.prog 21 = some ([.int .i32 0], 1, 4) := by simp [zc, ti21, zcells, Value.cells, Value.oneCell', absV, bytesOf]
theorem ti26 : ti Try.prog 26 = some (some (.slice none 0 0), 1, 24) := by kernel_rfl
theorem zc26 : zc Try.prog 26 = some ([.nilS], 1, 24) := by simp [zc, ti26, zcells, Value.cells, Value.oneCell', absV, bytesOf]
theorem ti28 : ti Try.prog 28 = some (some (.slice none 0 0), 1, 24) := by kernel_rfl
theorem zc28 : zc Try.prog 28 = some ([.nilS], 1, 24) := by simp [zc, ti28, zcells, Value.cells, Value.oneCell', absV, bytesOf]
theorem ti29 : ti Try.prog 29 = some (some (.slice none 0 0), 1, 24) := by kernel_rfl
theorem zc29 : zc Try.prog 29 = some ([.nilS], 1, 24) := by simp [zc, ti29, zcells, Value.cells, Value.oneCell', absV, bytesOf]
theorem ti30 : ti Try.prog 30 = some (some (.int .i64 0), 1, 8) := by kernel_rfl
theorem zc30 : zc Try.prog 30 = some ([.int .i64 0], 1, 8) := by simp [zc, ti30, zcells, Value.cells, Value.oneCell', absV, bytesOf]
theorem ti31 : ti Try.prog 31 = some (some (.agg #[(.int .i64 0), (.int .i64 0)]), 2, 16) := by kernel_rfl
theorem zc31 : zc Try.prog 31 = some ([.int .i64 0, .int .i64 0], 2, 16) := by simp [zc, ti31, zcells, Value.cells, Value.oneCell', absV, bytesOf]
theorem ti32 : ti Try.prog 32 = some (some (.agg #[(.int .i64 0), (.int .i64 0)]), 2, 16) := by kernel_rfl
theorem zc32 : zc Try.prog 32 = some ([.int .i64 0, .int .i64 0], 2, 16) := by simp [zc, ti32, zcells, Value.cells, Value.oneCell', absV, bytesOf]
theorem ti35 : ti Try.prog 35 = some (some (.agg #[(.string ⟨#[]⟩), (.int .i64 0), (.int .i64 0)]), 3, 32) := by kernel_rfl
theorem zc35 : zc Try.prog 35 = some ([.str [], .int .i64 0, .int .i64 0], 3, 32) := by simp [zc, ti35, zcells, Value.cells, Value.oneCell', absV, bytesOf]
theorem ti36 : ti Try.prog 36 = some (some (.agg #[(.string ⟨#[]⟩), (.int .i64 0), (.int .i64 0)]), 3, 32) := by kernel_rfl
theorem zc36 : zc Try.prog 36 = some ([.str [], .int .i64 0, .int .i64 0], 3, 32) := by simp [zc, ti36, zcells, Value.cells, Value.oneCell', absV, bytesOf]
theorem ti42 : ti Try.prog 42 = some (some (.int .u16 0), 1, 2) := by kernel_rfl
theorem zc42 : zc Try.prog 42 = some ([.int .u16 0], 1, 2) := by simp [zc, ti42, zcells, Value.cells, Value.oneCell', absV, bytesOf]
theorem ti44 : ti Try.prog 44 = some (some (.slice none 0 0), 1, 24) := by kernel_rfl
theorem zc44 : zc Try.prog 44 = some ([.nilS], 1, 24) := by simp [zc, ti44, zcells, Value.cells, Value.oneCell', absV, bytesOf]
theorem ti46 : ti Try.prog 46 = some (some (.agg #[(.int .i32 0), (.int .i32 0), (.int .i64 0), (.int .i64 0)]), 4, 24) := by kernel_rfl
theorem zc46 : zc Try.prog 46 = some ([.int .i32 0, .int .i32 0, .int .i64 0, .int .i64 0], 4, 24) := by simp [zc, ti46, zcells, Value.cells, Value.oneCell', absV, bytesOf]
theorem ti47 : ti Try.prog 47 = some (some (.agg #[(.int .i32 0), (.int .i32 0), (.int .i64 0), (.int .i64 0)]), 4, 24) := by kernel_rfl
theorem zc47 : zc Try.prog 47 = some ([.int .i32 0, .int .i32 0, .int .i64 0, .int .i64 0], 4, 24) := by simp [zc, ti47, zcells, Value.cells, Value.oneCell', absV, bytesOf]
theorem ti48 : ti Try.prog 48 = some (some (.slice none 0 0), 1, 24) := by kernel_rfl
theorem zc48 : zc Try.prog 48 = some ([.nilS], 1, 24) := by simp [zc, ti48, zcells, Value.cells, Value.oneCell', absV, bytesOf]
theorem ti50 : ti Try.prog 50 = some (some (.agg #[(.int .i64 0), (.int .i64 0), (.int .i64 0), (.int .i64 0)]), 4, 32) := by kernel_rfl
theorem zc50 : zc Try.prog 50 = some ([.int .i64 0, .int .i64 0, .int .i64 0, .int .i64 0], 4, 32) := by simp [zc, ti50, zcells, Value.cells, Value.oneCell', absV, bytesOf]
theorem ti59 : ti Try.prog 59 = some (some (.agg #[(.pointer none), (.pointer none), (.pointer none), (.string ⟨#[]⟩)]), 4, 40) := by kernel_rfl
theorem zc59 : zc Try.prog 59 = some ([.nilP, .nilP, .nilP, .str []], 4, 40) := by simp [zc, ti59, zcells, Value.cells, Value.oneCell', absV, bytesOf]
theorem ti60 : ti Try.prog 60 = some (some (.agg #[(.pointer none), (.pointer none), (.pointer none), (.string ⟨#[]⟩)]), 4, 40) := by kernel_rfl
theorem zc60 : zc Try.prog 60 = some ([.nilP, .nilP, .nilP, .str []], 4, 40) := by simp [zc, ti60, zcells, Value.cells, Value.oneCell', absV, bytesOf]
theorem ti61 : ti Try.prog 61 = some (some (.agg #[]), 0, 0) := by kernel_rfl
theorem zc61 : zc Try.prog 61 = some ([], 0, 0) := by simp [zc, ti61, zcells, Value.cells, Value.oneCell', absV, bytesOf]
theorem ti62 : ti Try.prog 62 = some (some (.agg #[]), 0, 0) := by kernel_rfl
theorem zc62 : zc Try.prog 62 = some ([], 0, 0) := by simp [zc, ti62, zcells, Value.cells, Value.oneCell', absV, bytesOf]
theorem ti63 : ti Try.prog 63 = some (some (.agg #[]), 0, 0) := by kernel_rfl
theorem zc63 : zc Try.prog 63 = some ([], 0, 0) := by simp [zc, ti63, zcells, Value.cells, Value.oneCell', absV, bytesOf]
theorem ti65 : ti Try.prog 65 = some (some (.int .u32 0), 1, 4) := by kernel_rfl
theorem zc65 : zc Try.prog 65 = some ([.int .u32 0], 1, 4) := by simp [zc, ti65, zcells, Value.cells, Value.oneCell', absV, bytesOf]
theorem ti66 : ti Try.prog 66 = some (some (.int .u8 0), 1, 1) := by kernel_rfl
theorem zc66 : zc Try.prog 66 = some ([.int .u8 0], 1, 1) := by simp [zc, ti66, zcells, Value.cells, Value.oneCell', absV, bytesOf]
theorem ti67 : ti Try.prog 67 = some (some (.int .u8 0), 1, 1) := by kernel_rfl
theorem zc67 : zc Try.prog 67 = some ([.int .u8 0], 1, 1) := by simp [zc, ti67, zcells, Value.cells, Value.oneCell', absV, bytesOf]
theorem ti69 : ti Try.prog 69 = some (some (.pointer none), 1, 8) := by kernel_rfl
theorem zc69 : zc Try.prog 69 = some ([.nilP], 1, 8) := by simp [zc, ti69, zcells, Value.cells, Value.oneCell', absV, bytesOf]
theorem ti70 : ti Try.prog 70 = some (some (.int .i32 0), 1, 4) := by kernel_rfl
theorem zc70 : zc Try.prog 70 = some ([.int .i32 0], 1, 4) := by simp [zc, ti70, zcells, Value.cells, Value.oneCell', absV, bytesOf]
theorem ti71 : ti Try.prog 71 = some (some (.int .i32 0), 1, 4) := by kernel_rfl
theorem zc71 : zc Try.prog 71 = some ([.int .i32 0], 1, 4) := by simp [zc, ti71, zcells, Value.cells, Value.oneCell', absV, bytesOf]
theorem mixed : Try.prog.follows .mixedOrders = true := by kernel_rfl
attribute [push_cast] ti2 zc2 Try.underlying2 ti3 zc3 Try.underlying3 ti4 zc4 Try.underlying4 ti5 zc5 Try.underlying5 ti6 zc6 Try.underlying6 ti7 zc7 Try.underlying7 ti8 zc8 Try.underlying8 ti9 zc9 Try.underlying9 ti10 zc10 Try.underlying10 ti11 zc11 Try.underlying11 ti12 zc12 Try.underlying12 ti13 zc13 Try.underlying13 ti14 zc14 Try.underlying14 ti15 zc15 Try.underlying15 ti16 zc16 Try.underlying16 ti17 zc17 Try.underlying17 ti18 zc18 Try.underlying18 ti19 zc19 Try.underlying19 ti21 zc21 Try.underlying21 ti26 zc26 Try.underlying26 ti28 zc28 Try.underlying28 ti29 zc29 Try.underlying29 ti30 zc30 Try.underlying30 ti31 zc31 Try.underlying31 ti32 zc32 Try.underlying32 ti35 zc35 Try.underlying35 ti36 zc36 Try.underlying36 ti42 zc42 Try.underlying42 ti44 zc44 Try.underlying44 ti46 zc46 Try.underlying46 ti47 zc47 Try.underlying47 ti48 zc48 Try.underlying48 ti50 zc50 Try.underlying50 ti59 zc59 Try.underlying59 ti60 zc60 Try.underlying60 ti61 zc61 Try.underlying61 ti62 zc62 Try.underlying62 ti63 zc63 Try.underlying63 ti65 zc65 Try.underlying65 ti66 zc66 Try.underlying66 ti67 zc67 Try.underlying67 ti69 zc69 Try.underlying69 ti70 zc70 Try.underlying70 ti71 zc71 Try.underlying71 mixed
end Go.Proofs.Ytpgjcmmbkgkhlaa
