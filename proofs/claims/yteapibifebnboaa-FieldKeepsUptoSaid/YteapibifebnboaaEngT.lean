/- Each type: its zero, its cells, its bytes. -/
import Derived.Test.YteapibifebnboaaProg
import Derived.Test.YteapibifebnboaaGEc
import Derived.KernelRfl
set_option linter.unusedSimpArgs false
namespace Go.Proofs.Yteapibifebnboaa
open Go.Eng Go
theorem ti2 : ti Try.prog 2 = some (some (.int .i64 0), 1, 8) := by kernel_rfl
theorem zc2 : zc Try.prog 2 = some ([.int .i64 0], 1, 8) := by simp [zc, ti2, zcells, Value.cells, Value.oneCell', absV, bytesOf]
theorem ti3 : ti Try.prog 3 = some (some (.int .i64 0), 1, 8) := by kernel_rfl
theorem zc3 : zc Try.prog 3 = some ([.int .i64 0], 1, 8) := by simp [zc, ti3, zcells, Value.cells, Value.oneCell', absV, bytesOf]
theorem ti4 : ti Try.prog 4 = some (some (.bool false), 1, 1) := by kernel_rfl
theorem zc4 : zc Try.prog 4 = some ([.bool false], 1, 1) := by simp [zc, ti4, zcells, Value.cells, Value.oneCell', absV, bytesOf]
theorem ti5 : ti Try.prog 5 = some (some (.int .u8 0), 1, 1) := by kernel_rfl
theorem zc5 : zc Try.prog 5 = some ([.int .u8 0], 1, 1) := by simp [zc, ti5, zcells, Value.cells, Value.oneCell', absV, bytesOf]
theorem ti6 : ti Try.prog 6 = some (some (.int .u8 0), 1, 1) := by kernel_rfl
theorem zc6 : zc Try.prog 6 = some ([.int .u8 0], 1, 1) := by simp [zc, ti6, zcells, Value.cells, Value.oneCell', absV, bytesOf]
theorem ti7 : ti Try.prog 7 = some (some (.agg #[(.int .i64 0), (.int .i64 0), (.bool false), (.int .u8 0)]), 4, 24) := by kernel_rfl
theorem zc7 : zc Try.prog 7 = some ([.int .i64 0, .int .i64 0, .bool false, .int .u8 0], 4, 24) := by simp [zc, ti7, zcells, Value.cells, Value.oneCell', absV, bytesOf]
theorem ti8 : ti Try.prog 8 = some (some (.agg #[(.int .i64 0), (.int .i64 0), (.bool false), (.int .u8 0)]), 4, 24) := by kernel_rfl
theorem zc8 : zc Try.prog 8 = some ([.int .i64 0, .int .i64 0, .bool false, .int .u8 0], 4, 24) := by simp [zc, ti8, zcells, Value.cells, Value.oneCell', absV, bytesOf]
theorem ti9 : ti Try.prog 9 = some (some (.string ⟨#[]⟩), 1, 16) := by kernel_rfl
theorem zc9 : zc Try.prog 9 = some ([.str []], 1, 16) := by simp [zc, ti9, zcells, Value.cells, Value.oneCell', absV, bytesOf]
theorem ti10 : ti Try.prog 10 = some (some (.string ⟨#[]⟩), 1, 16) := by kernel_rfl
theorem zc10 : zc Try.prog 10 = some ([.str []], 1, 16) := by simp [zc, ti10, zcells, Value.cells, Value.oneCell', absV, bytesOf]
theorem ti11 : ti Try.prog 11 = some (some (.string ⟨#[]⟩), 1, 16) := by kernel_rfl
theorem zc11 : zc Try.prog 11 = some ([.str []], 1, 16) := by simp [zc, ti11, zcells, Value.cells, Value.oneCell', absV, bytesOf]
theorem ti12 : ti Try.prog 12 = some (some (.int .u64 0), 1, 8) := by kernel_rfl
theorem zc12 : zc Try.prog 12 = some ([.int .u64 0], 1, 8) := by simp [zc, ti12, zcells, Value.cells, Value.oneCell', absV, bytesOf]
theorem ti13 : ti Try.prog 13 = some (some (.agg #[(.string ⟨#[]⟩), (.int .u64 0)]), 2, 24) := by kernel_rfl
theorem zc13 : zc Try.prog 13 = some ([.str [], .int .u64 0], 2, 24) := by simp [zc, ti13, zcells, Value.cells, Value.oneCell', absV, bytesOf]
theorem ti14 : ti Try.prog 14 = some (some (.agg #[(.string ⟨#[]⟩), (.int .u64 0)]), 2, 24) := by kernel_rfl
theorem zc14 : zc Try.prog 14 = some ([.str [], .int .u64 0], 2, 24) := by simp [zc, ti14, zcells, Value.cells, Value.oneCell', absV, bytesOf]
theorem ti15 : ti Try.prog 15 = some (some (.pointer none), 1, 8) := by kernel_rfl
theorem zc15 : zc Try.prog 15 = some ([.nilP], 1, 8) := by simp [zc, ti15, zcells, Value.cells, Value.oneCell', absV, bytesOf]
theorem ti16 : ti Try.prog 16 = some (some (.pointer none), 1, 8) := by kernel_rfl
theorem zc16 : zc Try.prog 16 = some ([.nilP], 1, 8) := by simp [zc, ti16, zcells, Value.cells, Value.oneCell', absV, bytesOf]
theorem ti17 : ti Try.prog 17 = some (some (.pointer none), 1, 8) := by kernel_rfl
theorem zc17 : zc Try.prog 17 = some ([.nilP], 1, 8) := by simp [zc, ti17, zcells, Value.cells, Value.oneCell', absV, bytesOf]
theorem ti18 : ti Try.prog 18 = some (some (.agg #[(.pointer none)]), 1, 8) := by kernel_rfl
theorem zc18 : zc Try.prog 18 = some ([.nilP], 1, 8) := by simp [zc, ti18, zcells, Value.cells, Value.oneCell', absV, bytesOf]
theorem ti19 : ti Try.prog 19 = some (some (.agg #[(.pointer none)]), 1, 8) := by kernel_rfl
theorem zc19 : zc Try.prog 19 = some ([.nilP], 1, 8) := by simp [zc, ti19, zcells, Value.cells, Value.oneCell', absV, bytesOf]
theorem ti21 : ti Try.prog 21 = some (some (.int .i32 0), 1, 4) := by kernel_rfl
theorem zc21 : zc Try.prog 21 = some ([.int .i32 0], 1, 4) := by simp [zc, ti21, zcells, Value.cells, Value.oneCell', absV, bytesOf]
theorem ti22 : ti Try.prog 22 = some (some (.slice none 0 0), 1, 24) := by kernel_rfl
theorem zc22 : zc Try.prog 22 = some ([.nilS], 1, 24) := by simp [zc, ti22, zcells, Value.cells, Value.oneCell', absV, bytesOf]
theorem ti24 : ti Try.prog 24 = some (some (.slice none 0 0), 1, 24) := by kernel_rfl
theorem zc24 : zc Try.prog 24 = some ([.nilS], 1, 24) := by simp [zc, ti24, zcells, Value.cells, Value.oneCell', absV, bytesOf]
theorem ti25 : ti Try.prog 25 = some (some (.int .i64 0), 1, 8) := by kernel_rfl
theorem zc25 : zc Try.prog 25 = some ([.int .i64 0], 1, 8) := by simp [zc, ti25, zcells, Value.cells, Value.oneCell', absV, bytesOf]
theorem ti26 : ti Try.prog 26 = some (some (.agg #[(.int .i64 0), (.int .i64 0)]), 2, 16) := by kernel_rfl
theorem zc26 : zc Try.prog 26 = some ([.int .i64 0, .int .i64 0], 2, 16) := by simp [zc, ti26, zcells, Value.cells, Value.oneCell', absV, bytesOf]
theorem ti27 : ti Try.prog 27 = some (some (.agg #[(.int .i64 0), (.int .i64 0)]), 2, 16) := by kernel_rfl
theorem zc27 : zc Try.prog 27 = some ([.int .i64 0, .int .i64 0], 2, 16) := by simp [zc, ti27, zcells, Value.cells, Value.oneCell', absV, bytesOf]
theorem ti30 : ti Try.prog 30 = some (some (.agg #[(.string ⟨#[]⟩), (.int .i64 0), (.int .i64 0)]), 3, 32) := by kernel_rfl
theorem zc30 : zc Try.prog 30 = some ([.str [], .int .i64 0, .int .i64 0], 3, 32) := by simp [zc, ti30, zcells, Value.cells, Value.oneCell', absV, bytesOf]
theorem ti31 : ti Try.prog 31 = some (some (.agg #[(.string ⟨#[]⟩), (.int .i64 0), (.int .i64 0)]), 3, 32) := by kernel_rfl
theorem zc31 : zc Try.prog 31 = some ([.str [], .int .i64 0, .int .i64 0], 3, 32) := by simp [zc, ti31, zcells, Value.cells, Value.oneCell', absV, bytesOf]
theorem ti37 : ti Try.prog 37 = some (some (.int .u16 0), 1, 2) := by kernel_rfl
theorem zc37 : zc Try.prog 37 = some ([.int .u16 0], 1, 2) := by simp [zc, ti37, zcells, Value.cells, Value.oneCell', absV, bytesOf]
theorem ti39 : ti Try.prog 39 = some (some (.agg #[(.int .u8 0), (.int .u8 0)]), 2, 2) := by kernel_rfl
theorem zc39 : zc Try.prog 39 = some ([.int .u8 0, .int .u8 0], 2, 2) := by simp [zc, ti39, zcells, Value.cells, Value.oneCell', absV, bytesOf]
theorem ti40 : ti Try.prog 40 = some (some (.slice none 0 0), 1, 24) := by kernel_rfl
theorem zc40 : zc Try.prog 40 = some ([.nilS], 1, 24) := by simp [zc, ti40, zcells, Value.cells, Value.oneCell', absV, bytesOf]
theorem ti41 : ti Try.prog 41 = some (some (.agg #[(.string ⟨#[]⟩), (.slice none 0 0), (.int .u8 0), (.int .u8 0), (.slice none 0 0)]), 5, 72) := by kernel_rfl
theorem zc41 : zc Try.prog 41 = some ([.str [], .nilS, .int .u8 0, .int .u8 0, .nilS], 5, 72) := by simp [zc, ti41, zcells, Value.cells, Value.oneCell', absV, bytesOf]
theorem ti42 : ti Try.prog 42 = some (some (.agg #[(.string ⟨#[]⟩), (.slice none 0 0), (.int .u8 0), (.int .u8 0), (.slice none 0 0)]), 5, 72) := by kernel_rfl
theorem zc42 : zc Try.prog 42 = some ([.str [], .nilS, .int .u8 0, .int .u8 0, .nilS], 5, 72) := by simp [zc, ti42, zcells, Value.cells, Value.oneCell', absV, bytesOf]
theorem ti52 : ti Try.prog 52 = some (some (.slice none 0 0), 1, 24) := by kernel_rfl
theorem zc52 : zc Try.prog 52 = some ([.nilS], 1, 24) := by simp [zc, ti52, zcells, Value.cells, Value.oneCell', absV, bytesOf]
theorem ti56 : ti Try.prog 56 = some (some (.agg #[(.int .u8 0), (.slice none 0 0)]), 2, 32) := by kernel_rfl
theorem zc56 : zc Try.prog 56 = some ([.int .u8 0, .nilS], 2, 32) := by simp [zc, ti56, zcells, Value.cells, Value.oneCell', absV, bytesOf]
theorem ti57 : ti Try.prog 57 = some (some (.agg #[(.int .u8 0), (.slice none 0 0)]), 2, 32) := by kernel_rfl
theorem zc57 : zc Try.prog 57 = some ([.int .u8 0, .nilS], 2, 32) := by simp [zc, ti57, zcells, Value.cells, Value.oneCell', absV, bytesOf]
theorem ti59 : ti Try.prog 59 = some (some (.slice none 0 0), 1, 24) := by kernel_rfl
theorem zc59 : zc Try.prog 59 = some ([.nilS], 1, 24) := by simp [zc, ti59, zcells, Value.cells, Value.oneCell', absV, bytesOf]
theorem ti60 : ti Try.prog 60 = some (some (.agg #[(.string ⟨#[]⟩), (.slice none 0 0)]), 2, 40) := by kernel_rfl
theorem zc60 : zc Try.prog 60 = some ([.str [], .nilS], 2, 40) := by simp [zc, ti60, zcells, Value.cells, Value.oneCell', absV, bytesOf]
theorem ti61 : ti Try.prog 61 = some (some (.agg #[(.string ⟨#[]⟩), (.slice none 0 0)]), 2, 40) := by kernel_rfl
theorem zc61 : zc Try.prog 61 = some ([.str [], .nilS], 2, 40) := by simp [zc, ti61, zcells, Value.cells, Value.oneCell', absV, bytesOf]
theorem ti66 : ti Try.prog 66 = some (some (.slice none 0 0), 1, 24) := by kernel_rfl
theorem zc66 : zc Try.prog 66 = some ([.nilS], 1, 24) := by simp [zc, ti66, zcells, Value.cells, Value.oneCell', absV, bytesOf]
theorem ti102 : ti Try.prog 102 = some (some (.agg #[(.pointer none), (.pointer none), (.pointer none), (.string ⟨#[]⟩)]), 4, 40) := by kernel_rfl
theorem zc102 : zc Try.prog 102 = some ([.nilP, .nilP, .nilP, .str []], 4, 40) := by simp [zc, ti102, zcells, Value.cells, Value.oneCell', absV, bytesOf]
theorem ti103 : ti Try.prog 103 = some (some (.agg #[(.pointer none), (.pointer none), (.pointer none), (.string ⟨#[]⟩)]), 4, 40) := by kernel_rfl
theorem zc103 : zc Try.prog 103 = some ([.nilP, .nilP, .nilP, .str []], 4, 40) := by simp [zc, ti103, zcells, Value.cells, Value.oneCell', absV, bytesOf]
theorem ti104 : ti Try.prog 104 = some (some (.agg #[]), 0, 0) := by kernel_rfl
theorem zc104 : zc Try.prog 104 = some ([], 0, 0) := by simp [zc, ti104, zcells, Value.cells, Value.oneCell', absV, bytesOf]
theorem ti105 : ti Try.prog 105 = some (some (.agg #[]), 0, 0) := by kernel_rfl
theorem zc105 : zc Try.prog 105 = some ([], 0, 0) := by simp [zc, ti105, zcells, Value.cells, Value.oneCell', absV, bytesOf]
theorem ti106 : ti Try.prog 106 = some (some (.agg #[]), 0, 0) := by kernel_rfl
theorem zc106 : zc Try.prog 106 = some ([], 0, 0) := by simp [zc, ti106, zcells, Value.cells, Value.oneCell', absV, bytesOf]
theorem ti108 : ti Try.prog 108 = some (some (.int .u32 0), 1, 4) := by kernel_rfl
theorem zc108 : zc Try.prog 108 = some ([.int .u32 0], 1, 4) := by simp [zc, ti108, zcells, Value.cells, Value.oneCell', absV, bytesOf]
theorem ti109 : ti Try.prog 109 = some (some (.int .u8 0), 1, 1) := by kernel_rfl
theorem zc109 : zc Try.prog 109 = some ([.int .u8 0], 1, 1) := by simp [zc, ti109, zcells, Value.cells, Value.oneCell', absV, bytesOf]
theorem ti110 : ti Try.prog 110 = some (some (.int .u8 0), 1, 1) := by kernel_rfl
theorem zc110 : zc Try.prog 110 = some ([.int .u8 0], 1, 1) := by simp [zc, ti110, zcells, Value.cells, Value.oneCell', absV, bytesOf]
theorem ti112 : ti Try.prog 112 = some (some (.pointer none), 1, 8) := by kernel_rfl
theorem zc112 : zc Try.prog 112 = some ([.nilP], 1, 8) := by simp [zc, ti112, zcells, Value.cells, Value.oneCell', absV, bytesOf]
theorem ti113 : ti Try.prog 113 = some (some (.int .i32 0), 1, 4) := by kernel_rfl
theorem zc113 : zc Try.prog 113 = some ([.int .i32 0], 1, 4) := by simp [zc, ti113, zcells, Value.cells, Value.oneCell', absV, bytesOf]
theorem ti114 : ti Try.prog 114 = some (some (.int .i32 0), 1, 4) := by kernel_rfl
theorem zc114 : zc Try.prog 114 = some ([.int .i32 0], 1, 4) := by simp [zc, ti114, zcells, Value.cells, Value.oneCell', absV, bytesOf]
theorem mixed : Try.prog.follows .mixedOrders = true := by kernel_rfl
attribute [push_cast] ti2 zc2 Try.underlying2 ti3 zc3 Try.underlying3 ti4 zc4 Try.underlying4 ti5 zc5 Try.underlying5 ti6 zc6 Try.underlying6 ti7 zc7 Try.underlying7 ti8 zc8 Try.underlying8 ti9 zc9 Try.underlying9 ti10 zc10 Try.underlying10 ti11 zc11 Try.underlying11 ti12 zc12 Try.underlying12 ti13 zc13 Try.underlying13 ti14 zc14 Try.underlying14 ti15 zc15 Try.underlying15 ti16 zc16 Try.underlying16 ti17 zc17 Try.underlying17 ti18 zc18 Try.underlying18 ti19 zc19 Try.underlying19 ti21 zc21 Try.underlying21 ti22 zc22 Try.underlying22 ti24 zc24 Try.underlying24 ti25 zc25 Try.underlying25 ti26 zc26 Try.underlying26 ti27 zc27 Try.underlying27 ti30 zc30 Try.underlying30 ti31 zc31 Try.underlying31 ti37 zc37 Try.underlying37 ti39 zc39 Try.underlying39 ti40 zc40 Try.underlying40 ti41 zc41 Try.underlying41 ti42 zc42 Try.underlying42 ti52 zc52 Try.underlying52 ti56 zc56 Try.underlying56 ti57 zc57 Try.underlying57 ti59 zc59 Try.underlying59 ti60 zc60 Try.underlying60 ti61 zc61 Try.underlying61 ti66 zc66 Try.underlying66 ti102 zc102 Try.underlying102 ti103 zc103 Try.underlying103 ti104 zc104 Try.underlying104 ti105 zc105 Try.underlying105 ti106 zc106 Try.underlying106 ti108 zc108 Try.underlying108 ti109 zc109 Try.underlying109 ti110 zc110 Try.underlying110 ti112 zc112 Try.underlying112 ti113 zc113 Try.underlying113 ti114 zc114 Try.underlying114 mixed
end Go.Proofs.Yteapibifebnboaa
