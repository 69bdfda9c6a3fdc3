/- What the types of the program tell. Printed by gen_ty.py. -/
import Derived.Test.YthedojfbofcefaaDoorChecked
import Derived.Test.YthedojfbofcefaaDoorEvOwn
set_option linter.unusedSimpArgs false
set_option linter.unusedVariables false
namespace Go.Ev
open Go Go.Proofs
theorem ty3 : tyA Tryd.prog 3 = some (1, false) := by kernel_rfl
theorem sz3 : szA Tryd.prog 3 = some 1 := by kernel_rfl
theorem by3 : bytesA Tryd.prog 3 = some 8 := by kernel_rfl
theorem zr3 : zeroA Tryd.prog 3 = some (.int .i64 0) := by kernel_rfl
theorem un3 : Tryd.prog.underlying 3 = some (.int .i64) := by kernel_rfl
theorem ty5 : tyA Tryd.prog 5 = some (1, false) := by kernel_rfl
theorem sz5 : szA Tryd.prog 5 = some 1 := by kernel_rfl
theorem by5 : bytesA Tryd.prog 5 = some 1 := by kernel_rfl
theorem zr5 : zeroA Tryd.prog 5 = some (.int .u8 0) := by kernel_rfl
theorem un5 : Tryd.prog.underlying 5 = some (.int .u8) := by kernel_rfl
theorem ty59 : tyA Tryd.prog 59 = some (1, false) := by kernel_rfl
theorem sz59 : szA Tryd.prog 59 = some 1 := by kernel_rfl
theorem by59 : bytesA Tryd.prog 59 = some 8 := by kernel_rfl
theorem zr59 : zeroA Tryd.prog 59 = some (.int .u64 0) := by kernel_rfl
theorem un59 : Tryd.prog.underlying 59 = some (.int .u64) := by kernel_rfl
theorem ty99 : tyA Tryd.prog 99 = some (1, false) := by kernel_rfl
theorem sz99 : szA Tryd.prog 99 = some 1 := by kernel_rfl
theorem by99 : bytesA Tryd.prog 99 = some 8 := by kernel_rfl
theorem zr99 : zeroA Tryd.prog 99 = some (.int .u64 0) := by kernel_rfl
theorem un99 : Tryd.prog.underlying 99 = some (.int .u64) := by kernel_rfl
theorem ty118 : tyA Tryd.prog 118 = some (1, false) := by kernel_rfl
theorem sz118 : szA Tryd.prog 118 = some 1 := by kernel_rfl
theorem by118 : bytesA Tryd.prog 118 = some 4 := by kernel_rfl
theorem zr118 : zeroA Tryd.prog 118 = some (.int .u32 0) := by kernel_rfl
theorem un118 : Tryd.prog.underlying 118 = some (.int .u32) := by kernel_rfl
theorem ty2 : tyA Tryd.prog 2 = some (1, false) := by kernel_rfl
theorem sz2 : szA Tryd.prog 2 = some 1 := by kernel_rfl
theorem by2 : bytesA Tryd.prog 2 = some 8 := by kernel_rfl
theorem zr2 : zeroA Tryd.prog 2 = some (.int .i64 0) := by kernel_rfl
theorem un2 : Tryd.prog.underlying 2 = some (.int .i64) := by kernel_rfl
theorem ty32 : tyA Tryd.prog 32 = some (1, false) := by kernel_rfl
theorem sz32 : szA Tryd.prog 32 = some 1 := by kernel_rfl
theorem by32 : bytesA Tryd.prog 32 = some 8 := by kernel_rfl
theorem zr32 : zeroA Tryd.prog 32 = some (.int .i64 0) := by kernel_rfl
theorem un32 : Tryd.prog.underlying 32 = some (.int .i64) := by kernel_rfl
theorem ty60 : tyA Tryd.prog 60 = some (1, false) := by kernel_rfl
theorem sz60 : szA Tryd.prog 60 = some 1 := by kernel_rfl
theorem by60 : bytesA Tryd.prog 60 = some 8 := by kernel_rfl
theorem zr60 : zeroA Tryd.prog 60 = some (.int .u64 0) := by kernel_rfl
theorem un60 : Tryd.prog.underlying 60 = some (.int .u64) := by kernel_rfl
theorem ty110 : tyA Tryd.prog 110 = some (1, false) := by kernel_rfl
theorem sz110 : szA Tryd.prog 110 = some 1 := by kernel_rfl
theorem by110 : bytesA Tryd.prog 110 = some 8 := by kernel_rfl
theorem zr110 : zeroA Tryd.prog 110 = some (.int .i64 0) := by kernel_rfl
theorem un110 : Tryd.prog.underlying 110 = some (.int .i64) := by kernel_rfl
theorem ty122 : tyA Tryd.prog 122 = some (1, false) := by kernel_rfl
theorem sz122 : szA Tryd.prog 122 = some 1 := by kernel_rfl
theorem by122 : bytesA Tryd.prog 122 = some 8 := by kernel_rfl
theorem zr122 : zeroA Tryd.prog 122 = some (.int .u64 0) := by kernel_rfl
theorem un122 : Tryd.prog.underlying 122 = some (.int .u64) := by kernel_rfl
theorem ty4 : tyA Tryd.prog 4 = some (1, false) := by kernel_rfl
theorem sz4 : szA Tryd.prog 4 = some 1 := by kernel_rfl
theorem by4 : bytesA Tryd.prog 4 = some 1 := by kernel_rfl
theorem zr4 : zeroA Tryd.prog 4 = some (.bool false) := by kernel_rfl
theorem un4 : Tryd.prog.underlying 4 = some .bool := by kernel_rfl
theorem ty22 : tyA Tryd.prog 22 = some (1, false) := by kernel_rfl
theorem sz22 : szA Tryd.prog 22 = some 1 := by kernel_rfl
theorem by22 : bytesA Tryd.prog 22 = some 24 := by kernel_rfl
theorem zr22 : zeroA Tryd.prog 22 = some (.slice none 0 0) := by kernel_rfl
theorem un22 : Tryd.prog.underlying 22 = some (.slice 5) := by kernel_rfl
theorem el22 : elemA Tryd.prog 22 = some 5 := by kernel_rfl
theorem ty26 : tyA Tryd.prog 26 = some (1, false) := by kernel_rfl
theorem sz26 : szA Tryd.prog 26 = some 1 := by kernel_rfl
theorem by26 : bytesA Tryd.prog 26 = some 24 := by kernel_rfl
theorem zr26 : zeroA Tryd.prog 26 = some (.slice none 0 0) := by kernel_rfl
theorem un26 : Tryd.prog.underlying 26 = some (.slice 58) := by kernel_rfl
theorem el26 : elemA Tryd.prog 26 = some 58 := by kernel_rfl
theorem ty30 : tyA Tryd.prog 30 = some (1, false) := by kernel_rfl
theorem sz30 : szA Tryd.prog 30 = some 1 := by kernel_rfl
theorem by30 : bytesA Tryd.prog 30 = some 24 := by kernel_rfl
theorem zr30 : zeroA Tryd.prog 30 = some (.slice none 0 0) := by kernel_rfl
theorem un30 : Tryd.prog.underlying 30 = some (.slice 35) := by kernel_rfl
theorem el30 : elemA Tryd.prog 30 = some 35 := by kernel_rfl
theorem ty35 : tyA Tryd.prog 35 = some (1, false) := by kernel_rfl
theorem sz35 : szA Tryd.prog 35 = some 1 := by kernel_rfl
theorem by35 : bytesA Tryd.prog 35 = some 24 := by kernel_rfl
theorem zr35 : zeroA Tryd.prog 35 = some (.slice none 0 0) := by kernel_rfl
theorem un35 : Tryd.prog.underlying 35 = some (.slice 3) := by kernel_rfl
theorem el35 : elemA Tryd.prog 35 = some 3 := by kernel_rfl
theorem ty65 : tyA Tryd.prog 65 = some (1, false) := by kernel_rfl
theorem sz65 : szA Tryd.prog 65 = some 1 := by kernel_rfl
theorem by65 : bytesA Tryd.prog 65 = some 24 := by kernel_rfl
theorem zr65 : zeroA Tryd.prog 65 = some (.slice none 0 0) := by kernel_rfl
theorem un65 : Tryd.prog.underlying 65 = some (.slice 60) := by kernel_rfl
theorem el65 : elemA Tryd.prog 65 = some 60 := by kernel_rfl
theorem ty95 : tyA Tryd.prog 95 = some (1, false) := by kernel_rfl
theorem sz95 : szA Tryd.prog 95 = some 1 := by kernel_rfl
theorem by95 : bytesA Tryd.prog 95 = some 24 := by kernel_rfl
theorem zr95 : zeroA Tryd.prog 95 = some (.slice none 0 0) := by kernel_rfl
theorem un95 : Tryd.prog.underlying 95 = some (.slice 4) := by kernel_rfl
theorem el95 : elemA Tryd.prog 95 = some 4 := by kernel_rfl
theorem ty100 : tyA Tryd.prog 100 = some (1, false) := by kernel_rfl
theorem sz100 : szA Tryd.prog 100 = some 1 := by kernel_rfl
theorem by100 : bytesA Tryd.prog 100 = some 24 := by kernel_rfl
theorem zr100 : zeroA Tryd.prog 100 = some (.slice none 0 0) := by kernel_rfl
theorem un100 : Tryd.prog.underlying 100 = some (.slice 95) := by kernel_rfl
theorem el100 : elemA Tryd.prog 100 = some 95 := by kernel_rfl
theorem ty24 : tyA Tryd.prog 24 = some (2, true) := by kernel_rfl
theorem sz24 : szA Tryd.prog 24 = some 2 := by kernel_rfl
theorem by24 : bytesA Tryd.prog 24 = some 32 := by kernel_rfl
theorem zr24 : zeroA Tryd.prog 24 = some (.agg #[.int .u8 0, .slice none 0 0]) := by kernel_rfl
theorem fd24_0 : fieldA Tryd.prog 24 0 = some (0, 1, 5) := by kernel_rfl
theorem fd24_1 : fieldA Tryd.prog 24 1 = some (1, 1, 22) := by kernel_rfl
theorem ty28 : tyA Tryd.prog 28 = some (2, true) := by kernel_rfl
theorem sz28 : szA Tryd.prog 28 = some 2 := by kernel_rfl
theorem by28 : bytesA Tryd.prog 28 = some 32 := by kernel_rfl
theorem zr28 : zeroA Tryd.prog 28 = some (.agg #[.int .i64 0, .slice none 0 0]) := by kernel_rfl
theorem fd28_0 : fieldA Tryd.prog 28 0 = some (0, 1, 3) := by kernel_rfl
theorem fd28_1 : fieldA Tryd.prog 28 1 = some (1, 1, 26) := by kernel_rfl
theorem ty58 : tyA Tryd.prog 58 = some (2, true) := by kernel_rfl
theorem sz58 : szA Tryd.prog 58 = some 2 := by kernel_rfl
theorem by58 : bytesA Tryd.prog 58 = some 16 := by kernel_rfl
theorem zr58 : zeroA Tryd.prog 58 = some (.agg #[.int .i64 0, .int .i64 0]) := by kernel_rfl
theorem fd58_0 : fieldA Tryd.prog 58 0 = some (0, 1, 3) := by kernel_rfl
theorem fd58_1 : fieldA Tryd.prog 58 1 = some (1, 1, 3) := by kernel_rfl
theorem ty62 : tyA Tryd.prog 62 = some (3, true) := by kernel_rfl
theorem sz62 : szA Tryd.prog 62 = some 3 := by kernel_rfl
theorem by62 : bytesA Tryd.prog 62 = some 24 := by kernel_rfl
theorem zr62 : zeroA Tryd.prog 62 = some (.agg #[.int .u64 0, .int .i64 0, .int .i64 0]) := by kernel_rfl
theorem fd62_0 : fieldA Tryd.prog 62 0 = some (0, 1, 60) := by kernel_rfl
theorem fd62_1 : fieldA Tryd.prog 62 1 = some (1, 1, 3) := by kernel_rfl
theorem fd62_2 : fieldA Tryd.prog 62 2 = some (2, 1, 3) := by kernel_rfl
end Go.Ev
