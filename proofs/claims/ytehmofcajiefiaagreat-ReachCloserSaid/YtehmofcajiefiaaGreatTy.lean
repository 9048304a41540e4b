/- The types of this program, as the walk asks for them. Printed by a program (wip/gen/Gen.lean). -/
import Derived.Test.YtehmofcajiefiaaGreatFw3
import Derived.Test.YtehmofcajiefiaaGreatRows
set_option linter.unusedSimpArgs false
set_option linter.unusedVariables false
namespace Go.Fw
open Go Go.Proofs
-- 0: tuple
@[simp] theorem sz0 : szP Tryz.prog 0 = some 1 := by kernel_rfl
@[simp] theorem agg0 : aggP Tryz.prog 0 = some false := by kernel_rfl
@[simp] theorem str0 : strP Tryz.prog 0 = false := by kernel_rfl
@[simp] theorem conc0 : Tryz.prog.concrete 0 = true := by kernel_rfl
@[simp] theorem bytes0 : bytesP Tryz.prog 0 = some 0 := by kernel_rfl
-- 1: func zero ?Go.Value.nilFunc
@[simp] theorem sz1 : szP Tryz.prog 1 = some 1 := by kernel_rfl
@[simp] theorem agg1 : aggP Tryz.prog 1 = some false := by kernel_rfl
@[simp] theorem str1 : strP Tryz.prog 1 = false := by kernel_rfl
@[simp] theorem conc1 : Tryz.prog.concrete 1 = true := by kernel_rfl
@[simp] theorem bytes1 : bytesP Tryz.prog 1 = some 8 := by kernel_rfl
-- 2: int i64
@[simp] theorem sz2 : szP Tryz.prog 2 = some 1 := by kernel_rfl
@[simp] theorem agg2 : aggP Tryz.prog 2 = some false := by kernel_rfl
@[simp] theorem int2 : intP Tryz.prog 2 = some .i64 := by kernel_rfl
@[simp] theorem str2 : strP Tryz.prog 2 = false := by kernel_rfl
@[simp] theorem und2 : (Program.underlying Tryz.prog 2).isSome = true := by kernel_rfl
@[simp] theorem conc2 : Tryz.prog.concrete 2 = true := by kernel_rfl
@[simp] theorem bytes2 : bytesP Tryz.prog 2 = some 8 := by kernel_rfl
@[simp] theorem zero2 : zeroP Tryz.prog 2 = some [(.int .i64 0)] := by kernel_rfl
-- 3: int i64
@[simp] theorem sz3 : szP Tryz.prog 3 = some 1 := by kernel_rfl
@[simp] theorem agg3 : aggP Tryz.prog 3 = some false := by kernel_rfl
@[simp] theorem int3 : intP Tryz.prog 3 = some .i64 := by kernel_rfl
@[simp] theorem str3 : strP Tryz.prog 3 = false := by kernel_rfl
@[simp] theorem und3 : (Program.underlying Tryz.prog 3).isSome = true := by kernel_rfl
@[simp] theorem conc3 : Tryz.prog.concrete 3 = true := by kernel_rfl
@[simp] theorem bytes3 : bytesP Tryz.prog 3 = some 8 := by kernel_rfl
@[simp] theorem zero3 : zeroP Tryz.prog 3 = some [(.int .i64 0)] := by kernel_rfl
-- 4: bool
@[simp] theorem sz4 : szP Tryz.prog 4 = some 1 := by kernel_rfl
@[simp] theorem agg4 : aggP Tryz.prog 4 = some false := by kernel_rfl
@[simp] theorem str4 : strP Tryz.prog 4 = false := by kernel_rfl
@[simp] theorem bool4 : boolP Tryz.prog 4 = true := by kernel_rfl
@[simp] theorem conc4 : Tryz.prog.concrete 4 = true := by kernel_rfl
@[simp] theorem bytes4 : bytesP Tryz.prog 4 = some 1 := by kernel_rfl
@[simp] theorem zero4 : zeroP Tryz.prog 4 = some [(.bool false)] := by kernel_rfl
-- 5: int u8
@[simp] theorem sz5 : szP Tryz.prog 5 = some 1 := by kernel_rfl
@[simp] theorem agg5 : aggP Tryz.prog 5 = some false := by kernel_rfl
@[simp] theorem int5 : intP Tryz.prog 5 = some .u8 := by kernel_rfl
@[simp] theorem str5 : strP Tryz.prog 5 = false := by kernel_rfl
@[simp] theorem und5 : (Program.underlying Tryz.prog 5).isSome = true := by kernel_rfl
@[simp] theorem conc5 : Tryz.prog.concrete 5 = true := by kernel_rfl
@[simp] theorem bytes5 : bytesP Tryz.prog 5 = some 1 := by kernel_rfl
@[simp] theorem zero5 : zeroP Tryz.prog 5 = some [(.int .u8 0)] := by kernel_rfl
-- 6: int u8
@[simp] theorem sz6 : szP Tryz.prog 6 = some 1 := by kernel_rfl
@[simp] theorem agg6 : aggP Tryz.prog 6 = some false := by kernel_rfl
@[simp] theorem int6 : intP Tryz.prog 6 = some .u8 := by kernel_rfl
@[simp] theorem str6 : strP Tryz.prog 6 = false := by kernel_rfl
@[simp] theorem und6 : (Program.underlying Tryz.prog 6).isSome = true := by kernel_rfl
@[simp] theorem conc6 : Tryz.prog.concrete 6 = true := by kernel_rfl
@[simp] theorem bytes6 : bytesP Tryz.prog 6 = some 1 := by kernel_rfl
@[simp] theorem zero6 : zeroP Tryz.prog 6 = some [(.int .u8 0)] := by kernel_rfl
-- 7: struct 0:2 1:3 2:4 3:6
@[simp] theorem sz7 : szP Tryz.prog 7 = some 4 := by kernel_rfl
@[simp] theorem agg7 : aggP Tryz.prog 7 = some true := by kernel_rfl
@[simp] theorem str7 : strP Tryz.prog 7 = false := by kernel_rfl
@[simp] theorem conc7 : Tryz.prog.concrete 7 = true := by kernel_rfl
@[simp] theorem bytes7 : bytesP Tryz.prog 7 = some 24 := by kernel_rfl
@[simp] theorem zero7 : zeroP Tryz.prog 7 = some [(.int .i64 0), (.int .i64 0), (.bool false), (.int .u8 0)] := by kernel_rfl
@[simp] theorem field7_0 : fieldP Tryz.prog 7 0 = some (0, 2) := by kernel_rfl
@[simp] theorem field7_1 : fieldP Tryz.prog 7 1 = some (1, 3) := by kernel_rfl
@[simp] theorem field7_2 : fieldP Tryz.prog 7 2 = some (2, 4) := by kernel_rfl
@[simp] theorem field7_3 : fieldP Tryz.prog 7 3 = some (3, 6) := by kernel_rfl
-- 8: struct 0:2 1:3 2:4 3:6
@[simp] theorem sz8 : szP Tryz.prog 8 = some 4 := by kernel_rfl
@[simp] theorem agg8 : aggP Tryz.prog 8 = some true := by kernel_rfl
@[simp] theorem str8 : strP Tryz.prog 8 = false := by kernel_rfl
@[simp] theorem conc8 : Tryz.prog.concrete 8 = true := by kernel_rfl
@[simp] theorem bytes8 : bytesP Tryz.prog 8 = some 24 := by kernel_rfl
@[simp] theorem zero8 : zeroP Tryz.prog 8 = some [(.int .i64 0), (.int .i64 0), (.bool false), (.int .u8 0)] := by kernel_rfl
@[simp] theorem field8_0 : fieldP Tryz.prog 8 0 = some (0, 2) := by kernel_rfl
@[simp] theorem field8_1 : fieldP Tryz.prog 8 1 = some (1, 3) := by kernel_rfl
@[simp] theorem field8_2 : fieldP Tryz.prog 8 2 = some (2, 4) := by kernel_rfl
@[simp] theorem field8_3 : fieldP Tryz.prog 8 3 = some (3, 6) := by kernel_rfl
-- 9: string
@[simp] theorem sz9 : szP Tryz.prog 9 = some 1 := by kernel_rfl
@[simp] theorem agg9 : aggP Tryz.prog 9 = some false := by kernel_rfl
@[simp] theorem elem9 : elemP Tryz.prog 9 = none := by kernel_rfl
@[simp] theorem str9 : strP Tryz.prog 9 = true := by kernel_rfl
@[simp] theorem und9 : (Program.underlying Tryz.prog 9).isSome = true := by kernel_rfl
@[simp] theorem conc9 : Tryz.prog.concrete 9 = true := by kernel_rfl
@[simp] theorem bytes9 : bytesP Tryz.prog 9 = some 16 := by kernel_rfl
@[simp] theorem zero9 : zeroP Tryz.prog 9 = some [(.string ⟨#[]⟩)] := by kernel_rfl
-- 10: string
@[simp] theorem sz10 : szP Tryz.prog 10 = some 1 := by kernel_rfl
@[simp] theorem agg10 : aggP Tryz.prog 10 = some false := by kernel_rfl
@[simp] theorem elem10 : elemP Tryz.prog 10 = none := by kernel_rfl
@[simp] theorem str10 : strP Tryz.prog 10 = true := by kernel_rfl
@[simp] theorem und10 : (Program.underlying Tryz.prog 10).isSome = true := by kernel_rfl
@[simp] theorem conc10 : Tryz.prog.concrete 10 = true := by kernel_rfl
@[simp] theorem bytes10 : bytesP Tryz.prog 10 = some 16 := by kernel_rfl
@[simp] theorem zero10 : zeroP Tryz.prog 10 = some [(.string ⟨#[]⟩)] := by kernel_rfl
-- 11: string
@[simp] theorem sz11 : szP Tryz.prog 11 = some 1 := by kernel_rfl
@[simp] theorem agg11 : aggP Tryz.prog 11 = some false := by kernel_rfl
@[simp] theorem elem11 : elemP Tryz.prog 11 = none := by kernel_rfl
@[simp] theorem str11 : strP Tryz.prog 11 = true := by kernel_rfl
@[simp] theorem und11 : (Program.underlying Tryz.prog 11).isSome = true := by kernel_rfl
@[simp] theorem conc11 : Tryz.prog.concrete 11 = true := by kernel_rfl
@[simp] theorem bytes11 : bytesP Tryz.prog 11 = some 16 := by kernel_rfl
@[simp] theorem zero11 : zeroP Tryz.prog 11 = some [(.string ⟨#[]⟩)] := by kernel_rfl
-- 12: int u64
@[simp] theorem sz12 : szP Tryz.prog 12 = some 1 := by kernel_rfl
@[simp] theorem agg12 : aggP Tryz.prog 12 = some false := by kernel_rfl
@[simp] theorem int12 : intP Tryz.prog 12 = some .u64 := by kernel_rfl
@[simp] theorem str12 : strP Tryz.prog 12 = false := by kernel_rfl
@[simp] theorem und12 : (Program.underlying Tryz.prog 12).isSome = true := by kernel_rfl
@[simp] theorem conc12 : Tryz.prog.concrete 12 = true := by kernel_rfl
@[simp] theorem bytes12 : bytesP Tryz.prog 12 = some 8 := by kernel_rfl
@[simp] theorem zero12 : zeroP Tryz.prog 12 = some [(.int .u64 0)] := by kernel_rfl
-- 13: struct 0:9 1:12
@[simp] theorem sz13 : szP Tryz.prog 13 = some 2 := by kernel_rfl
@[simp] theorem agg13 : aggP Tryz.prog 13 = some true := by kernel_rfl
@[simp] theorem str13 : strP Tryz.prog 13 = false := by kernel_rfl
@[simp] theorem conc13 : Tryz.prog.concrete 13 = true := by kernel_rfl
@[simp] theorem bytes13 : bytesP Tryz.prog 13 = some 24 := by kernel_rfl
@[simp] theorem zero13 : zeroP Tryz.prog 13 = some [(.string ⟨#[]⟩), (.int .u64 0)] := by kernel_rfl
@[simp] theorem field13_0 : fieldP Tryz.prog 13 0 = some (0, 9) := by kernel_rfl
@[simp] theorem field13_1 : fieldP Tryz.prog 13 1 = some (1, 12) := by kernel_rfl
-- 14: struct 0:9 1:12
@[simp] theorem sz14 : szP Tryz.prog 14 = some 2 := by kernel_rfl
@[simp] theorem agg14 : aggP Tryz.prog 14 = some true := by kernel_rfl
@[simp] theorem str14 : strP Tryz.prog 14 = false := by kernel_rfl
@[simp] theorem conc14 : Tryz.prog.concrete 14 = true := by kernel_rfl
@[simp] theorem bytes14 : bytesP Tryz.prog 14 = some 24 := by kernel_rfl
@[simp] theorem zero14 : zeroP Tryz.prog 14 = some [(.string ⟨#[]⟩), (.int .u64 0)] := by kernel_rfl
@[simp] theorem field14_0 : fieldP Tryz.prog 14 0 = some (0, 9) := by kernel_rfl
@[simp] theorem field14_1 : fieldP Tryz.prog 14 1 = some (1, 12) := by kernel_rfl
-- 15: pointer
@[simp] theorem sz15 : szP Tryz.prog 15 = some 1 := by kernel_rfl
@[simp] theorem agg15 : aggP Tryz.prog 15 = some false := by kernel_rfl
@[simp] theorem str15 : strP Tryz.prog 15 = false := by kernel_rfl
@[simp] theorem conc15 : Tryz.prog.concrete 15 = true := by kernel_rfl
@[simp] theorem bytes15 : bytesP Tryz.prog 15 = some 8 := by kernel_rfl
@[simp] theorem zero15 : zeroP Tryz.prog 15 = some [(.pointer none)] := by kernel_rfl
-- 16: pointer
@[simp] theorem sz16 : szP Tryz.prog 16 = some 1 := by kernel_rfl
@[simp] theorem agg16 : aggP Tryz.prog 16 = some false := by kernel_rfl
@[simp] theorem str16 : strP Tryz.prog 16 = false := by kernel_rfl
@[simp] theorem conc16 : Tryz.prog.concrete 16 = true := by kernel_rfl
@[simp] theorem bytes16 : bytesP Tryz.prog 16 = some 8 := by kernel_rfl
@[simp] theorem zero16 : zeroP Tryz.prog 16 = some [(.pointer none)] := by kernel_rfl
-- 17: pointer
@[simp] theorem sz17 : szP Tryz.prog 17 = some 1 := by kernel_rfl
@[simp] theorem agg17 : aggP Tryz.prog 17 = some false := by kernel_rfl
@[simp] theorem str17 : strP Tryz.prog 17 = false := by kernel_rfl
@[simp] theorem conc17 : Tryz.prog.concrete 17 = true := by kernel_rfl
@[simp] theorem bytes17 : bytesP Tryz.prog 17 = some 8 := by kernel_rfl
@[simp] theorem zero17 : zeroP Tryz.prog 17 = some [(.pointer none)] := by kernel_rfl
-- 18: struct 0:17
@[simp] theorem sz18 : szP Tryz.prog 18 = some 1 := by kernel_rfl
@[simp] theorem agg18 : aggP Tryz.prog 18 = some true := by kernel_rfl
@[simp] theorem str18 : strP Tryz.prog 18 = false := by kernel_rfl
@[simp] theorem conc18 : Tryz.prog.concrete 18 = true := by kernel_rfl
@[simp] theorem bytes18 : bytesP Tryz.prog 18 = some 8 := by kernel_rfl
@[simp] theorem zero18 : zeroP Tryz.prog 18 = some [(.pointer none)] := by kernel_rfl
@[simp] theorem field18_0 : fieldP Tryz.prog 18 0 = some (0, 17) := by kernel_rfl
-- 19: struct 0:17
@[simp] theorem sz19 : szP Tryz.prog 19 = some 1 := by kernel_rfl
@[simp] theorem agg19 : aggP Tryz.prog 19 = some true := by kernel_rfl
@[simp] theorem str19 : strP Tryz.prog 19 = false := by kernel_rfl
@[simp] theorem conc19 : Tryz.prog.concrete 19 = true := by kernel_rfl
@[simp] theorem bytes19 : bytesP Tryz.prog 19 = some 8 := by kernel_rfl
@[simp] theorem zero19 : zeroP Tryz.prog 19 = some [(.pointer none)] := by kernel_rfl
@[simp] theorem field19_0 : fieldP Tryz.prog 19 0 = some (0, 17) := by kernel_rfl
-- 20: interface
@[simp] theorem sz20 : szP Tryz.prog 20 = some 1 := by kernel_rfl
@[simp] theorem agg20 : aggP Tryz.prog 20 = some false := by kernel_rfl
@[simp] theorem str20 : strP Tryz.prog 20 = false := by kernel_rfl
@[simp] theorem bytes20 : bytesP Tryz.prog 20 = some 16 := by kernel_rfl
@[simp] theorem zero20 : zeroP Tryz.prog 20 = some [.nilIface] := by kernel_rfl
-- 21: int i32
@[simp] theorem sz21 : szP Tryz.prog 21 = some 1 := by kernel_rfl
@[simp] theorem agg21 : aggP Tryz.prog 21 = some false := by kernel_rfl
@[simp] theorem int21 : intP Tryz.prog 21 = some .i32 := by kernel_rfl
@[simp] theorem str21 : strP Tryz.prog 21 = false := by kernel_rfl
@[simp] theorem und21 : (Program.underlying Tryz.prog 21).isSome = true := by kernel_rfl
@[simp] theorem conc21 : Tryz.prog.concrete 21 = true := by kernel_rfl
@[simp] theorem bytes21 : bytesP Tryz.prog 21 = some 4 := by kernel_rfl
@[simp] theorem zero21 : zeroP Tryz.prog 21 = some [(.int .i32 0)] := by kernel_rfl
-- 22: struct 0:3 1:3 2:3
@[simp] theorem sz22 : szP Tryz.prog 22 = some 3 := by kernel_rfl
@[simp] theorem agg22 : aggP Tryz.prog 22 = some true := by kernel_rfl
@[simp] theorem str22 : strP Tryz.prog 22 = false := by kernel_rfl
@[simp] theorem conc22 : Tryz.prog.concrete 22 = true := by kernel_rfl
@[simp] theorem bytes22 : bytesP Tryz.prog 22 = some 24 := by kernel_rfl
@[simp] theorem zero22 : zeroP Tryz.prog 22 = some [(.int .i64 0), (.int .i64 0), (.int .i64 0)] := by kernel_rfl
@[simp] theorem field22_0 : fieldP Tryz.prog 22 0 = some (0, 3) := by kernel_rfl
@[simp] theorem field22_1 : fieldP Tryz.prog 22 1 = some (1, 3) := by kernel_rfl
@[simp] theorem field22_2 : fieldP Tryz.prog 22 2 = some (2, 3) := by kernel_rfl
-- 23: struct 0:3 1:3 2:3
@[simp] theorem sz23 : szP Tryz.prog 23 = some 3 := by kernel_rfl
@[simp] theorem agg23 : aggP Tryz.prog 23 = some true := by kernel_rfl
@[simp] theorem str23 : strP Tryz.prog 23 = false := by kernel_rfl
@[simp] theorem conc23 : Tryz.prog.concrete 23 = true := by kernel_rfl
@[simp] theorem bytes23 : bytesP Tryz.prog 23 = some 24 := by kernel_rfl
@[simp] theorem zero23 : zeroP Tryz.prog 23 = some [(.int .i64 0), (.int .i64 0), (.int .i64 0)] := by kernel_rfl
@[simp] theorem field23_0 : fieldP Tryz.prog 23 0 = some (0, 3) := by kernel_rfl
@[simp] theorem field23_1 : fieldP Tryz.prog 23 1 = some (1, 3) := by kernel_rfl
@[simp] theorem field23_2 : fieldP Tryz.prog 23 2 = some (2, 3) := by kernel_rfl
-- 24: slice 154
@[simp] theorem sz24 : szP Tryz.prog 24 = some 1 := by kernel_rfl
@[simp] theorem agg24 : aggP Tryz.prog 24 = some false := by kernel_rfl
@[simp] theorem elem24 : elemP Tryz.prog 24 = some 154 := by kernel_rfl
@[simp] theorem str24 : strP Tryz.prog 24 = false := by kernel_rfl
@[simp] theorem und24 : (Program.underlying Tryz.prog 24).isSome = true := by kernel_rfl
@[simp] theorem conc24 : Tryz.prog.concrete 24 = true := by kernel_rfl
@[simp] theorem bytes24 : bytesP Tryz.prog 24 = some 24 := by kernel_rfl
@[simp] theorem zero24 : zeroP Tryz.prog 24 = some [(.slice none 0 0)] := by kernel_rfl
-- 25: struct 0:24
@[simp] theorem sz25 : szP Tryz.prog 25 = some 1 := by kernel_rfl
@[simp] theorem agg25 : aggP Tryz.prog 25 = some true := by kernel_rfl
@[simp] theorem str25 : strP Tryz.prog 25 = false := by kernel_rfl
@[simp] theorem conc25 : Tryz.prog.concrete 25 = true := by kernel_rfl
@[simp] theorem bytes25 : bytesP Tryz.prog 25 = some 24 := by kernel_rfl
@[simp] theorem zero25 : zeroP Tryz.prog 25 = some [(.slice none 0 0)] := by kernel_rfl
@[simp] theorem field25_0 : fieldP Tryz.prog 25 0 = some (0, 24) := by kernel_rfl
-- 26: struct 0:24
@[simp] theorem sz26 : szP Tryz.prog 26 = some 1 := by kernel_rfl
@[simp] theorem agg26 : aggP Tryz.prog 26 = some true := by kernel_rfl
@[simp] theorem str26 : strP Tryz.prog 26 = false := by kernel_rfl
@[simp] theorem conc26 : Tryz.prog.concrete 26 = true := by kernel_rfl
@[simp] theorem bytes26 : bytesP Tryz.prog 26 = some 24 := by kernel_rfl
@[simp] theorem zero26 : zeroP Tryz.prog 26 = some [(.slice none 0 0)] := by kernel_rfl
@[simp] theorem field26_0 : fieldP Tryz.prog 26 0 = some (0, 24) := by kernel_rfl
-- 27: struct 0:26 1:4
@[simp] theorem sz27 : szP Tryz.prog 27 = some 2 := by kernel_rfl
@[simp] theorem agg27 : aggP Tryz.prog 27 = some true := by kernel_rfl
@[simp] theorem str27 : strP Tryz.prog 27 = false := by kernel_rfl
@[simp] theorem conc27 : Tryz.prog.concrete 27 = true := by kernel_rfl
@[simp] theorem bytes27 : bytesP Tryz.prog 27 = some 32 := by kernel_rfl
@[simp] theorem zero27 : zeroP Tryz.prog 27 = some [(.slice none 0 0), (.bool false)] := by kernel_rfl
@[simp] theorem field27_0 : fieldP Tryz.prog 27 0 = some (0, 26) := by kernel_rfl
@[simp] theorem field27_1 : fieldP Tryz.prog 27 1 = some (1, 4) := by kernel_rfl
-- 28: struct 0:26 1:4
@[simp] theorem sz28 : szP Tryz.prog 28 = some 2 := by kernel_rfl
@[simp] theorem agg28 : aggP Tryz.prog 28 = some true := by kernel_rfl
@[simp] theorem str28 : strP Tryz.prog 28 = false := by kernel_rfl
@[simp] theorem conc28 : Tryz.prog.concrete 28 = true := by kernel_rfl
@[simp] theorem bytes28 : bytesP Tryz.prog 28 = some 32 := by kernel_rfl
@[simp] theorem zero28 : zeroP Tryz.prog 28 = some [(.slice none 0 0), (.bool false)] := by kernel_rfl
@[simp] theorem field28_0 : fieldP Tryz.prog 28 0 = some (0, 26) := by kernel_rfl
@[simp] theorem field28_1 : fieldP Tryz.prog 28 1 = some (1, 4) := by kernel_rfl
-- 29: struct 0:28 2:28
@[simp] theorem sz29 : szP Tryz.prog 29 = some 4 := by kernel_rfl
@[simp] theorem agg29 : aggP Tryz.prog 29 = some true := by kernel_rfl
@[simp] theorem str29 : strP Tryz.prog 29 = false := by kernel_rfl
@[simp] theorem conc29 : Tryz.prog.concrete 29 = true := by kernel_rfl
@[simp] theorem bytes29 : bytesP Tryz.prog 29 = some 64 := by kernel_rfl
@[simp] theorem zero29 : zeroP Tryz.prog 29 = some [(.slice none 0 0), (.bool false), (.slice none 0 0), (.bool false)] := by kernel_rfl
@[simp] theorem field29_0 : fieldP Tryz.prog 29 0 = some (0, 28) := by kernel_rfl
@[simp] theorem field29_1 : fieldP Tryz.prog 29 1 = some (2, 28) := by kernel_rfl
-- 30: struct 0:28 2:28
@[simp] theorem sz30 : szP Tryz.prog 30 = some 4 := by kernel_rfl
@[simp] theorem agg30 : aggP Tryz.prog 30 = some true := by kernel_rfl
@[simp] theorem str30 : strP Tryz.prog 30 = false := by kernel_rfl
@[simp] theorem conc30 : Tryz.prog.concrete 30 = true := by kernel_rfl
@[simp] theorem bytes30 : bytesP Tryz.prog 30 = some 64 := by kernel_rfl
@[simp] theorem zero30 : zeroP Tryz.prog 30 = some [(.slice none 0 0), (.bool false), (.slice none 0 0), (.bool false)] := by kernel_rfl
@[simp] theorem field30_0 : fieldP Tryz.prog 30 0 = some (0, 28) := by kernel_rfl
@[simp] theorem field30_1 : fieldP Tryz.prog 30 1 = some (2, 28) := by kernel_rfl
-- 31: struct 0:30 4:30
@[simp] theorem sz31 : szP Tryz.prog 31 = some 8 := by kernel_rfl
@[simp] theorem agg31 : aggP Tryz.prog 31 = some true := by kernel_rfl
@[simp] theorem str31 : strP Tryz.prog 31 = false := by kernel_rfl
@[simp] theorem conc31 : Tryz.prog.concrete 31 = true := by kernel_rfl
@[simp] theorem bytes31 : bytesP Tryz.prog 31 = some 128 := by kernel_rfl
@[simp] theorem zero31 : zeroP Tryz.prog 31 = some [(.slice none 0 0), (.bool false), (.slice none 0 0), (.bool false), (.slice none 0 0), (.bool false), (.slice none 0 0), (.bool false)] := by kernel_rfl
@[simp] theorem field31_0 : fieldP Tryz.prog 31 0 = some (0, 30) := by kernel_rfl
@[simp] theorem field31_1 : fieldP Tryz.prog 31 1 = some (4, 30) := by kernel_rfl
-- 32: struct 0:30 4:30
@[simp] theorem sz32 : szP Tryz.prog 32 = some 8 := by kernel_rfl
@[simp] theorem agg32 : aggP Tryz.prog 32 = some true := by kernel_rfl
@[simp] theorem str32 : strP Tryz.prog 32 = false := by kernel_rfl
@[simp] theorem conc32 : Tryz.prog.concrete 32 = true := by kernel_rfl
@[simp] theorem bytes32 : bytesP Tryz.prog 32 = some 128 := by kernel_rfl
@[simp] theorem zero32 : zeroP Tryz.prog 32 = some [(.slice none 0 0), (.bool false), (.slice none 0 0), (.bool false), (.slice none 0 0), (.bool false), (.slice none 0 0), (.bool false)] := by kernel_rfl
@[simp] theorem field32_0 : fieldP Tryz.prog 32 0 = some (0, 30) := by kernel_rfl
@[simp] theorem field32_1 : fieldP Tryz.prog 32 1 = some (4, 30) := by kernel_rfl
-- 33: struct 0:32 8:32
@[simp] theorem sz33 : szP Tryz.prog 33 = some 16 := by kernel_rfl
@[simp] theorem agg33 : aggP Tryz.prog 33 = some true := by kernel_rfl
@[simp] theorem str33 : strP Tryz.prog 33 = false := by kernel_rfl
@[simp] theorem conc33 : Tryz.prog.concrete 33 = true := by kernel_rfl
@[simp] theorem bytes33 : bytesP Tryz.prog 33 = some 256 := by kernel_rfl
@[simp] theorem zero33 : zeroP Tryz.prog 33 = some [(.slice none 0 0), (.bool false), (.slice none 0 0), (.bool false), (.slice none 0 0), (.bool false), (.slice none 0 0), (.bool false), (.slice none 0 0), (.bool false), (.slice none 0 0), (.bool false), (.slice none 0 0), (.bool false), (.slice none 0 0), (.bool false)] := by kernel_rfl
@[simp] theorem field33_0 : fieldP Tryz.prog 33 0 = some (0, 32) := by kernel_rfl
@[simp] theorem field33_1 : fieldP Tryz.prog 33 1 = some (8, 32) := by kernel_rfl
-- 34: struct 0:32 8:32
@[simp] theorem sz34 : szP Tryz.prog 34 = some 16 := by kernel_rfl
@[simp] theorem agg34 : aggP Tryz.prog 34 = some true := by kernel_rfl
@[simp] theorem str34 : strP Tryz.prog 34 = false := by kernel_rfl
@[simp] theorem conc34 : Tryz.prog.concrete 34 = true := by kernel_rfl
@[simp] theorem bytes34 : bytesP Tryz.prog 34 = some 256 := by kernel_rfl
@[simp] theorem zero34 : zeroP Tryz.prog 34 = some [(.slice none 0 0), (.bool false), (.slice none 0 0), (.bool false), (.slice none 0 0), (.bool false), (.slice none 0 0), (.bool false), (.slice none 0 0), (.bool false), (.slice none 0 0), (.bool false), (.slice none 0 0), (.bool false), (.slice none 0 0), (.bool false)] := by kernel_rfl
@[simp] theorem field34_0 : fieldP Tryz.prog 34 0 = some (0, 32) := by kernel_rfl
@[simp] theorem field34_1 : fieldP Tryz.prog 34 1 = some (8, 32) := by kernel_rfl
-- 35: slice 3
@[simp] theorem sz35 : szP Tryz.prog 35 = some 1 := by kernel_rfl
@[simp] theorem agg35 : aggP Tryz.prog 35 = some false := by kernel_rfl
@[simp] theorem elem35 : elemP Tryz.prog 35 = some 3 := by kernel_rfl
@[simp] theorem str35 : strP Tryz.prog 35 = false := by kernel_rfl
@[simp] theorem und35 : (Program.underlying Tryz.prog 35).isSome = true := by kernel_rfl
@[simp] theorem conc35 : Tryz.prog.concrete 35 = true := by kernel_rfl
@[simp] theorem bytes35 : bytesP Tryz.prog 35 = some 24 := by kernel_rfl
@[simp] theorem zero35 : zeroP Tryz.prog 35 = some [(.slice none 0 0)] := by kernel_rfl
-- 36: struct 0:35
@[simp] theorem sz36 : szP Tryz.prog 36 = some 1 := by kernel_rfl
@[simp] theorem agg36 : aggP Tryz.prog 36 = some true := by kernel_rfl
@[simp] theorem str36 : strP Tryz.prog 36 = false := by kernel_rfl
@[simp] theorem conc36 : Tryz.prog.concrete 36 = true := by kernel_rfl
@[simp] theorem bytes36 : bytesP Tryz.prog 36 = some 24 := by kernel_rfl
@[simp] theorem zero36 : zeroP Tryz.prog 36 = some [(.slice none 0 0)] := by kernel_rfl
@[simp] theorem field36_0 : fieldP Tryz.prog 36 0 = some (0, 35) := by kernel_rfl
-- 37: struct 0:35
@[simp] theorem sz37 : szP Tryz.prog 37 = some 1 := by kernel_rfl
@[simp] theorem agg37 : aggP Tryz.prog 37 = some true := by kernel_rfl
@[simp] theorem str37 : strP Tryz.prog 37 = false := by kernel_rfl
@[simp] theorem conc37 : Tryz.prog.concrete 37 = true := by kernel_rfl
@[simp] theorem bytes37 : bytesP Tryz.prog 37 = some 24 := by kernel_rfl
@[simp] theorem zero37 : zeroP Tryz.prog 37 = some [(.slice none 0 0)] := by kernel_rfl
@[simp] theorem field37_0 : fieldP Tryz.prog 37 0 = some (0, 35) := by kernel_rfl
-- 38: struct 0:3 1:37
@[simp] theorem sz38 : szP Tryz.prog 38 = some 2 := by kernel_rfl
@[simp] theorem agg38 : aggP Tryz.prog 38 = some true := by kernel_rfl
@[simp] theorem str38 : strP Tryz.prog 38 = false := by kernel_rfl
@[simp] theorem conc38 : Tryz.prog.concrete 38 = true := by kernel_rfl
@[simp] theorem bytes38 : bytesP Tryz.prog 38 = some 32 := by kernel_rfl
@[simp] theorem zero38 : zeroP Tryz.prog 38 = some [(.int .i64 0), (.slice none 0 0)] := by kernel_rfl
@[simp] theorem field38_0 : fieldP Tryz.prog 38 0 = some (0, 3) := by kernel_rfl
@[simp] theorem field38_1 : fieldP Tryz.prog 38 1 = some (1, 37) := by kernel_rfl
-- 39: struct 0:3 1:37
@[simp] theorem sz39 : szP Tryz.prog 39 = some 2 := by kernel_rfl
@[simp] theorem agg39 : aggP Tryz.prog 39 = some true := by kernel_rfl
@[simp] theorem str39 : strP Tryz.prog 39 = false := by kernel_rfl
@[simp] theorem conc39 : Tryz.prog.concrete 39 = true := by kernel_rfl
@[simp] theorem bytes39 : bytesP Tryz.prog 39 = some 32 := by kernel_rfl
@[simp] theorem zero39 : zeroP Tryz.prog 39 = some [(.int .i64 0), (.slice none 0 0)] := by kernel_rfl
@[simp] theorem field39_0 : fieldP Tryz.prog 39 0 = some (0, 3) := by kernel_rfl
@[simp] theorem field39_1 : fieldP Tryz.prog 39 1 = some (1, 37) := by kernel_rfl
-- 40: struct 0:39 2:39 4:39
@[simp] theorem sz40 : szP Tryz.prog 40 = some 6 := by kernel_rfl
@[simp] theorem agg40 : aggP Tryz.prog 40 = some true := by kernel_rfl
@[simp] theorem str40 : strP Tryz.prog 40 = false := by kernel_rfl
@[simp] theorem conc40 : Tryz.prog.concrete 40 = true := by kernel_rfl
@[simp] theorem bytes40 : bytesP Tryz.prog 40 = some 96 := by kernel_rfl
@[simp] theorem zero40 : zeroP Tryz.prog 40 = some [(.int .i64 0), (.slice none 0 0), (.int .i64 0), (.slice none 0 0), (.int .i64 0), (.slice none 0 0)] := by kernel_rfl
@[simp] theorem field40_0 : fieldP Tryz.prog 40 0 = some (0, 39) := by kernel_rfl
@[simp] theorem field40_1 : fieldP Tryz.prog 40 1 = some (2, 39) := by kernel_rfl
@[simp] theorem field40_2 : fieldP Tryz.prog 40 2 = some (4, 39) := by kernel_rfl
-- 41: struct 0:39 2:39 4:39
@[simp] theorem sz41 : szP Tryz.prog 41 = some 6 := by kernel_rfl
@[simp] theorem agg41 : aggP Tryz.prog 41 = some true := by kernel_rfl
@[simp] theorem str41 : strP Tryz.prog 41 = false := by kernel_rfl
@[simp] theorem conc41 : Tryz.prog.concrete 41 = true := by kernel_rfl
@[simp] theorem bytes41 : bytesP Tryz.prog 41 = some 96 := by kernel_rfl
@[simp] theorem zero41 : zeroP Tryz.prog 41 = some [(.int .i64 0), (.slice none 0 0), (.int .i64 0), (.slice none 0 0), (.int .i64 0), (.slice none 0 0)] := by kernel_rfl
@[simp] theorem field41_0 : fieldP Tryz.prog 41 0 = some (0, 39) := by kernel_rfl
@[simp] theorem field41_1 : fieldP Tryz.prog 41 1 = some (2, 39) := by kernel_rfl
@[simp] theorem field41_2 : fieldP Tryz.prog 41 2 = some (4, 39) := by kernel_rfl
-- 42: struct 0:41 6:41
@[simp] theorem sz42 : szP Tryz.prog 42 = some 12 := by kernel_rfl
@[simp] theorem agg42 : aggP Tryz.prog 42 = some true := by kernel_rfl
@[simp] theorem str42 : strP Tryz.prog 42 = false := by kernel_rfl
@[simp] theorem conc42 : Tryz.prog.concrete 42 = true := by kernel_rfl
@[simp] theorem bytes42 : bytesP Tryz.prog 42 = some 192 := by kernel_rfl
@[simp] theorem zero42 : zeroP Tryz.prog 42 = some [(.int .i64 0), (.slice none 0 0), (.int .i64 0), (.slice none 0 0), (.int .i64 0), (.slice none 0 0), (.int .i64 0), (.slice none 0 0), (.int .i64 0), (.slice none 0 0), (.int .i64 0), (.slice none 0 0)] := by kernel_rfl
@[simp] theorem field42_0 : fieldP Tryz.prog 42 0 = some (0, 41) := by kernel_rfl
@[simp] theorem field42_1 : fieldP Tryz.prog 42 1 = some (6, 41) := by kernel_rfl
-- 43: struct 0:41 6:41
@[simp] theorem sz43 : szP Tryz.prog 43 = some 12 := by kernel_rfl
@[simp] theorem agg43 : aggP Tryz.prog 43 = some true := by kernel_rfl
@[simp] theorem str43 : strP Tryz.prog 43 = false := by kernel_rfl
@[simp] theorem conc43 : Tryz.prog.concrete 43 = true := by kernel_rfl
@[simp] theorem bytes43 : bytesP Tryz.prog 43 = some 192 := by kernel_rfl
@[simp] theorem zero43 : zeroP Tryz.prog 43 = some [(.int .i64 0), (.slice none 0 0), (.int .i64 0), (.slice none 0 0), (.int .i64 0), (.slice none 0 0), (.int .i64 0), (.slice none 0 0), (.int .i64 0), (.slice none 0 0), (.int .i64 0), (.slice none 0 0)] := by kernel_rfl
@[simp] theorem field43_0 : fieldP Tryz.prog 43 0 = some (0, 41) := by kernel_rfl
@[simp] theorem field43_1 : fieldP Tryz.prog 43 1 = some (6, 41) := by kernel_rfl
-- 44: tuple
@[simp] theorem sz44 : szP Tryz.prog 44 = some 1 := by kernel_rfl
@[simp] theorem agg44 : aggP Tryz.prog 44 = some false := by kernel_rfl
@[simp] theorem str44 : strP Tryz.prog 44 = false := by kernel_rfl
@[simp] theorem conc44 : Tryz.prog.concrete 44 = true := by kernel_rfl
@[simp] theorem bytes44 : bytesP Tryz.prog 44 = some 0 := by kernel_rfl
-- 45: func zero ?Go.Value.nilFunc
@[simp] theorem sz45 : szP Tryz.prog 45 = some 1 := by kernel_rfl
@[simp] theorem agg45 : aggP Tryz.prog 45 = some false := by kernel_rfl
@[simp] theorem str45 : strP Tryz.prog 45 = false := by kernel_rfl
@[simp] theorem conc45 : Tryz.prog.concrete 45 = true := by kernel_rfl
@[simp] theorem bytes45 : bytesP Tryz.prog 45 = some 8 := by kernel_rfl
-- 46: func zero ?Go.Value.nilFunc
@[simp] theorem sz46 : szP Tryz.prog 46 = some 1 := by kernel_rfl
@[simp] theorem agg46 : aggP Tryz.prog 46 = some false := by kernel_rfl
@[simp] theorem str46 : strP Tryz.prog 46 = false := by kernel_rfl
@[simp] theorem conc46 : Tryz.prog.concrete 46 = true := by kernel_rfl
@[simp] theorem bytes46 : bytesP Tryz.prog 46 = some 8 := by kernel_rfl
-- 47: func zero ?Go.Value.nilFunc
@[simp] theorem sz47 : szP Tryz.prog 47 = some 1 := by kernel_rfl
@[simp] theorem agg47 : aggP Tryz.prog 47 = some false := by kernel_rfl
@[simp] theorem str47 : strP Tryz.prog 47 = false := by kernel_rfl
@[simp] theorem conc47 : Tryz.prog.concrete 47 = true := by kernel_rfl
@[simp] theorem bytes47 : bytesP Tryz.prog 47 = some 8 := by kernel_rfl
-- 48: func zero ?Go.Value.nilFunc
@[simp] theorem sz48 : szP Tryz.prog 48 = some 1 := by kernel_rfl
@[simp] theorem agg48 : aggP Tryz.prog 48 = some false := by kernel_rfl
@[simp] theorem str48 : strP Tryz.prog 48 = false := by kernel_rfl
@[simp] theorem conc48 : Tryz.prog.concrete 48 = true := by kernel_rfl
@[simp] theorem bytes48 : bytesP Tryz.prog 48 = some 8 := by kernel_rfl
-- 49: func zero ?Go.Value.nilFunc
@[simp] theorem sz49 : szP Tryz.prog 49 = some 1 := by kernel_rfl
@[simp] theorem agg49 : aggP Tryz.prog 49 = some false := by kernel_rfl
@[simp] theorem str49 : strP Tryz.prog 49 = false := by kernel_rfl
@[simp] theorem conc49 : Tryz.prog.concrete 49 = true := by kernel_rfl
@[simp] theorem bytes49 : bytesP Tryz.prog 49 = some 8 := by kernel_rfl
-- 50: func zero ?Go.Value.nilFunc
@[simp] theorem sz50 : szP Tryz.prog 50 = some 1 := by kernel_rfl
@[simp] theorem agg50 : aggP Tryz.prog 50 = some false := by kernel_rfl
@[simp] theorem str50 : strP Tryz.prog 50 = false := by kernel_rfl
@[simp] theorem conc50 : Tryz.prog.concrete 50 = true := by kernel_rfl
@[simp] theorem bytes50 : bytesP Tryz.prog 50 = some 8 := by kernel_rfl
-- 51: struct 0:39 2:39
@[simp] theorem sz51 : szP Tryz.prog 51 = some 4 := by kernel_rfl
@[simp] theorem agg51 : aggP Tryz.prog 51 = some true := by kernel_rfl
@[simp] theorem str51 : strP Tryz.prog 51 = false := by kernel_rfl
@[simp] theorem conc51 : Tryz.prog.concrete 51 = true := by kernel_rfl
@[simp] theorem bytes51 : bytesP Tryz.prog 51 = some 64 := by kernel_rfl
@[simp] theorem zero51 : zeroP Tryz.prog 51 = some [(.int .i64 0), (.slice none 0 0), (.int .i64 0), (.slice none 0 0)] := by kernel_rfl
@[simp] theorem field51_0 : fieldP Tryz.prog 51 0 = some (0, 39) := by kernel_rfl
@[simp] theorem field51_1 : fieldP Tryz.prog 51 1 = some (2, 39) := by kernel_rfl
-- 52: struct 0:39 2:39
@[simp] theorem sz52 : szP Tryz.prog 52 = some 4 := by kernel_rfl
@[simp] theorem agg52 : aggP Tryz.prog 52 = some true := by kernel_rfl
@[simp] theorem str52 : strP Tryz.prog 52 = false := by kernel_rfl
@[simp] theorem conc52 : Tryz.prog.concrete 52 = true := by kernel_rfl
@[simp] theorem bytes52 : bytesP Tryz.prog 52 = some 64 := by kernel_rfl
@[simp] theorem zero52 : zeroP Tryz.prog 52 = some [(.int .i64 0), (.slice none 0 0), (.int .i64 0), (.slice none 0 0)] := by kernel_rfl
@[simp] theorem field52_0 : fieldP Tryz.prog 52 0 = some (0, 39) := by kernel_rfl
@[simp] theorem field52_1 : fieldP Tryz.prog 52 1 = some (2, 39) := by kernel_rfl
-- 53: func zero ?Go.Value.nilFunc
@[simp] theorem sz53 : szP Tryz.prog 53 = some 1 := by kernel_rfl
@[simp] theorem agg53 : aggP Tryz.prog 53 = some false := by kernel_rfl
@[simp] theorem str53 : strP Tryz.prog 53 = false := by kernel_rfl
@[simp] theorem conc53 : Tryz.prog.concrete 53 = true := by kernel_rfl
@[simp] theorem bytes53 : bytesP Tryz.prog 53 = some 8 := by kernel_rfl
-- 54: func zero ?Go.Value.nilFunc
@[simp] theorem sz54 : szP Tryz.prog 54 = some 1 := by kernel_rfl
@[simp] theorem agg54 : aggP Tryz.prog 54 = some false := by kernel_rfl
@[simp] theorem str54 : strP Tryz.prog 54 = false := by kernel_rfl
@[simp] theorem conc54 : Tryz.prog.concrete 54 = true := by kernel_rfl
@[simp] theorem bytes54 : bytesP Tryz.prog 54 = some 8 := by kernel_rfl
-- 55: func zero ?Go.Value.nilFunc
@[simp] theorem sz55 : szP Tryz.prog 55 = some 1 := by kernel_rfl
@[simp] theorem agg55 : aggP Tryz.prog 55 = some false := by kernel_rfl
@[simp] theorem str55 : strP Tryz.prog 55 = false := by kernel_rfl
@[simp] theorem conc55 : Tryz.prog.concrete 55 = true := by kernel_rfl
@[simp] theorem bytes55 : bytesP Tryz.prog 55 = some 8 := by kernel_rfl
-- 56: func zero ?Go.Value.nilFunc
@[simp] theorem sz56 : szP Tryz.prog 56 = some 1 := by kernel_rfl
@[simp] theorem agg56 : aggP Tryz.prog 56 = some false := by kernel_rfl
@[simp] theorem str56 : strP Tryz.prog 56 = false := by kernel_rfl
@[simp] theorem conc56 : Tryz.prog.concrete 56 = true := by kernel_rfl
@[simp] theorem bytes56 : bytesP Tryz.prog 56 = some 8 := by kernel_rfl
-- 57: func zero ?Go.Value.nilFunc
@[simp] theorem sz57 : szP Tryz.prog 57 = some 1 := by kernel_rfl
@[simp] theorem agg57 : aggP Tryz.prog 57 = some false := by kernel_rfl
@[simp] theorem str57 : strP Tryz.prog 57 = false := by kernel_rfl
@[simp] theorem conc57 : Tryz.prog.concrete 57 = true := by kernel_rfl
@[simp] theorem bytes57 : bytesP Tryz.prog 57 = some 8 := by kernel_rfl
-- 58: func zero ?Go.Value.nilFunc
@[simp] theorem sz58 : szP Tryz.prog 58 = some 1 := by kernel_rfl
@[simp] theorem agg58 : aggP Tryz.prog 58 = some false := by kernel_rfl
@[simp] theorem str58 : strP Tryz.prog 58 = false := by kernel_rfl
@[simp] theorem conc58 : Tryz.prog.concrete 58 = true := by kernel_rfl
@[simp] theorem bytes58 : bytesP Tryz.prog 58 = some 8 := by kernel_rfl
-- 59: func zero ?Go.Value.nilFunc
@[simp] theorem sz59 : szP Tryz.prog 59 = some 1 := by kernel_rfl
@[simp] theorem agg59 : aggP Tryz.prog 59 = some false := by kernel_rfl
@[simp] theorem str59 : strP Tryz.prog 59 = false := by kernel_rfl
@[simp] theorem conc59 : Tryz.prog.concrete 59 = true := by kernel_rfl
@[simp] theorem bytes59 : bytesP Tryz.prog 59 = some 8 := by kernel_rfl
-- 60: func zero ?Go.Value.nilFunc
@[simp] theorem sz60 : szP Tryz.prog 60 = some 1 := by kernel_rfl
@[simp] theorem agg60 : aggP Tryz.prog 60 = some false := by kernel_rfl
@[simp] theorem str60 : strP Tryz.prog 60 = false := by kernel_rfl
@[simp] theorem conc60 : Tryz.prog.concrete 60 = true := by kernel_rfl
@[simp] theorem bytes60 : bytesP Tryz.prog 60 = some 8 := by kernel_rfl
-- 61: func zero ?Go.Value.nilFunc
@[simp] theorem sz61 : szP Tryz.prog 61 = some 1 := by kernel_rfl
@[simp] theorem agg61 : aggP Tryz.prog 61 = some false := by kernel_rfl
@[simp] theorem str61 : strP Tryz.prog 61 = false := by kernel_rfl
@[simp] theorem conc61 : Tryz.prog.concrete 61 = true := by kernel_rfl
@[simp] theorem bytes61 : bytesP Tryz.prog 61 = some 8 := by kernel_rfl
-- 62: func zero ?Go.Value.nilFunc
@[simp] theorem sz62 : szP Tryz.prog 62 = some 1 := by kernel_rfl
@[simp] theorem agg62 : aggP Tryz.prog 62 = some false := by kernel_rfl
@[simp] theorem str62 : strP Tryz.prog 62 = false := by kernel_rfl
@[simp] theorem conc62 : Tryz.prog.concrete 62 = true := by kernel_rfl
@[simp] theorem bytes62 : bytesP Tryz.prog 62 = some 8 := by kernel_rfl
-- 63: func zero ?Go.Value.nilFunc
@[simp] theorem sz63 : szP Tryz.prog 63 = some 1 := by kernel_rfl
@[simp] theorem agg63 : aggP Tryz.prog 63 = some false := by kernel_rfl
@[simp] theorem str63 : strP Tryz.prog 63 = false := by kernel_rfl
@[simp] theorem conc63 : Tryz.prog.concrete 63 = true := by kernel_rfl
@[simp] theorem bytes63 : bytesP Tryz.prog 63 = some 8 := by kernel_rfl
-- 64: func zero ?Go.Value.nilFunc
@[simp] theorem sz64 : szP Tryz.prog 64 = some 1 := by kernel_rfl
@[simp] theorem agg64 : aggP Tryz.prog 64 = some false := by kernel_rfl
@[simp] theorem str64 : strP Tryz.prog 64 = false := by kernel_rfl
@[simp] theorem conc64 : Tryz.prog.concrete 64 = true := by kernel_rfl
@[simp] theorem bytes64 : bytesP Tryz.prog 64 = some 8 := by kernel_rfl
-- 65: func zero ?Go.Value.nilFunc
@[simp] theorem sz65 : szP Tryz.prog 65 = some 1 := by kernel_rfl
@[simp] theorem agg65 : aggP Tryz.prog 65 = some false := by kernel_rfl
@[simp] theorem str65 : strP Tryz.prog 65 = false := by kernel_rfl
@[simp] theorem conc65 : Tryz.prog.concrete 65 = true := by kernel_rfl
@[simp] theorem bytes65 : bytesP Tryz.prog 65 = some 8 := by kernel_rfl
-- 66: int i64
@[simp] theorem sz66 : szP Tryz.prog 66 = some 1 := by kernel_rfl
@[simp] theorem agg66 : aggP Tryz.prog 66 = some false := by kernel_rfl
@[simp] theorem int66 : intP Tryz.prog 66 = some .i64 := by kernel_rfl
@[simp] theorem str66 : strP Tryz.prog 66 = false := by kernel_rfl
@[simp] theorem und66 : (Program.underlying Tryz.prog 66).isSome = true := by kernel_rfl
@[simp] theorem conc66 : Tryz.prog.concrete 66 = true := by kernel_rfl
@[simp] theorem bytes66 : bytesP Tryz.prog 66 = some 8 := by kernel_rfl
@[simp] theorem zero66 : zeroP Tryz.prog 66 = some [(.int .i64 0)] := by kernel_rfl
-- 67: tuple
@[simp] theorem sz67 : szP Tryz.prog 67 = some 1 := by kernel_rfl
@[simp] theorem agg67 : aggP Tryz.prog 67 = some false := by kernel_rfl
@[simp] theorem str67 : strP Tryz.prog 67 = false := by kernel_rfl
@[simp] theorem conc67 : Tryz.prog.concrete 67 = true := by kernel_rfl
@[simp] theorem bytes67 : bytesP Tryz.prog 67 = some 0 := by kernel_rfl
-- 68: func zero ?Go.Value.nilFunc
@[simp] theorem sz68 : szP Tryz.prog 68 = some 1 := by kernel_rfl
@[simp] theorem agg68 : aggP Tryz.prog 68 = some false := by kernel_rfl
@[simp] theorem str68 : strP Tryz.prog 68 = false := by kernel_rfl
@[simp] theorem conc68 : Tryz.prog.concrete 68 = true := by kernel_rfl
@[simp] theorem bytes68 : bytesP Tryz.prog 68 = some 8 := by kernel_rfl
-- 69: func zero ?Go.Value.nilFunc
@[simp] theorem sz69 : szP Tryz.prog 69 = some 1 := by kernel_rfl
@[simp] theorem agg69 : aggP Tryz.prog 69 = some false := by kernel_rfl
@[simp] theorem str69 : strP Tryz.prog 69 = false := by kernel_rfl
@[simp] theorem conc69 : Tryz.prog.concrete 69 = true := by kernel_rfl
@[simp] theorem bytes69 : bytesP Tryz.prog 69 = some 8 := by kernel_rfl
-- 70: func zero ?Go.Value.nilFunc
@[simp] theorem sz70 : szP Tryz.prog 70 = some 1 := by kernel_rfl
@[simp] theorem agg70 : aggP Tryz.prog 70 = some false := by kernel_rfl
@[simp] theorem str70 : strP Tryz.prog 70 = false := by kernel_rfl
@[simp] theorem conc70 : Tryz.prog.concrete 70 = true := by kernel_rfl
@[simp] theorem bytes70 : bytesP Tryz.prog 70 = some 8 := by kernel_rfl
-- 71: func zero ?Go.Value.nilFunc
@[simp] theorem sz71 : szP Tryz.prog 71 = some 1 := by kernel_rfl
@[simp] theorem agg71 : aggP Tryz.prog 71 = some false := by kernel_rfl
@[simp] theorem str71 : strP Tryz.prog 71 = false := by kernel_rfl
@[simp] theorem conc71 : Tryz.prog.concrete 71 = true := by kernel_rfl
@[simp] theorem bytes71 : bytesP Tryz.prog 71 = some 8 := by kernel_rfl
-- 72: struct 0:3 1:3
@[simp] theorem sz72 : szP Tryz.prog 72 = some 2 := by kernel_rfl
@[simp] theorem agg72 : aggP Tryz.prog 72 = some true := by kernel_rfl
@[simp] theorem str72 : strP Tryz.prog 72 = false := by kernel_rfl
@[simp] theorem conc72 : Tryz.prog.concrete 72 = true := by kernel_rfl
@[simp] theorem bytes72 : bytesP Tryz.prog 72 = some 16 := by kernel_rfl
@[simp] theorem zero72 : zeroP Tryz.prog 72 = some [(.int .i64 0), (.int .i64 0)] := by kernel_rfl
@[simp] theorem field72_0 : fieldP Tryz.prog 72 0 = some (0, 3) := by kernel_rfl
@[simp] theorem field72_1 : fieldP Tryz.prog 72 1 = some (1, 3) := by kernel_rfl
-- 73: struct 0:3 1:3
@[simp] theorem sz73 : szP Tryz.prog 73 = some 2 := by kernel_rfl
@[simp] theorem agg73 : aggP Tryz.prog 73 = some true := by kernel_rfl
@[simp] theorem str73 : strP Tryz.prog 73 = false := by kernel_rfl
@[simp] theorem conc73 : Tryz.prog.concrete 73 = true := by kernel_rfl
@[simp] theorem bytes73 : bytesP Tryz.prog 73 = some 16 := by kernel_rfl
@[simp] theorem zero73 : zeroP Tryz.prog 73 = some [(.int .i64 0), (.int .i64 0)] := by kernel_rfl
@[simp] theorem field73_0 : fieldP Tryz.prog 73 0 = some (0, 3) := by kernel_rfl
@[simp] theorem field73_1 : fieldP Tryz.prog 73 1 = some (1, 3) := by kernel_rfl
-- 74: func zero ?Go.Value.nilFunc
@[simp] theorem sz74 : szP Tryz.prog 74 = some 1 := by kernel_rfl
@[simp] theorem agg74 : aggP Tryz.prog 74 = some false := by kernel_rfl
@[simp] theorem str74 : strP Tryz.prog 74 = false := by kernel_rfl
@[simp] theorem conc74 : Tryz.prog.concrete 74 = true := by kernel_rfl
@[simp] theorem bytes74 : bytesP Tryz.prog 74 = some 8 := by kernel_rfl
-- 75: func zero ?Go.Value.nilFunc
@[simp] theorem sz75 : szP Tryz.prog 75 = some 1 := by kernel_rfl
@[simp] theorem agg75 : aggP Tryz.prog 75 = some false := by kernel_rfl
@[simp] theorem str75 : strP Tryz.prog 75 = false := by kernel_rfl
@[simp] theorem conc75 : Tryz.prog.concrete 75 = true := by kernel_rfl
@[simp] theorem bytes75 : bytesP Tryz.prog 75 = some 8 := by kernel_rfl
-- 76: func zero ?Go.Value.nilFunc
@[simp] theorem sz76 : szP Tryz.prog 76 = some 1 := by kernel_rfl
@[simp] theorem agg76 : aggP Tryz.prog 76 = some false := by kernel_rfl
@[simp] theorem str76 : strP Tryz.prog 76 = false := by kernel_rfl
@[simp] theorem conc76 : Tryz.prog.concrete 76 = true := by kernel_rfl
@[simp] theorem bytes76 : bytesP Tryz.prog 76 = some 8 := by kernel_rfl
-- 77: func zero ?Go.Value.nilFunc
@[simp] theorem sz77 : szP Tryz.prog 77 = some 1 := by kernel_rfl
@[simp] theorem agg77 : aggP Tryz.prog 77 = some false := by kernel_rfl
@[simp] theorem str77 : strP Tryz.prog 77 = false := by kernel_rfl
@[simp] theorem conc77 : Tryz.prog.concrete 77 = true := by kernel_rfl
@[simp] theorem bytes77 : bytesP Tryz.prog 77 = some 8 := by kernel_rfl
-- 78: func zero ?Go.Value.nilFunc
@[simp] theorem sz78 : szP Tryz.prog 78 = some 1 := by kernel_rfl
@[simp] theorem agg78 : aggP Tryz.prog 78 = some false := by kernel_rfl
@[simp] theorem str78 : strP Tryz.prog 78 = false := by kernel_rfl
@[simp] theorem conc78 : Tryz.prog.concrete 78 = true := by kernel_rfl
@[simp] theorem bytes78 : bytesP Tryz.prog 78 = some 8 := by kernel_rfl
-- 79: func zero ?Go.Value.nilFunc
@[simp] theorem sz79 : szP Tryz.prog 79 = some 1 := by kernel_rfl
@[simp] theorem agg79 : aggP Tryz.prog 79 = some false := by kernel_rfl
@[simp] theorem str79 : strP Tryz.prog 79 = false := by kernel_rfl
@[simp] theorem conc79 : Tryz.prog.concrete 79 = true := by kernel_rfl
@[simp] theorem bytes79 : bytesP Tryz.prog 79 = some 8 := by kernel_rfl
-- 80: func zero ?Go.Value.nilFunc
@[simp] theorem sz80 : szP Tryz.prog 80 = some 1 := by kernel_rfl
@[simp] theorem agg80 : aggP Tryz.prog 80 = some false := by kernel_rfl
@[simp] theorem str80 : strP Tryz.prog 80 = false := by kernel_rfl
@[simp] theorem conc80 : Tryz.prog.concrete 80 = true := by kernel_rfl
@[simp] theorem bytes80 : bytesP Tryz.prog 80 = some 8 := by kernel_rfl
-- 81: func zero ?Go.Value.nilFunc
@[simp] theorem sz81 : szP Tryz.prog 81 = some 1 := by kernel_rfl
@[simp] theorem agg81 : aggP Tryz.prog 81 = some false := by kernel_rfl
@[simp] theorem str81 : strP Tryz.prog 81 = false := by kernel_rfl
@[simp] theorem conc81 : Tryz.prog.concrete 81 = true := by kernel_rfl
@[simp] theorem bytes81 : bytesP Tryz.prog 81 = some 8 := by kernel_rfl
-- 82: func zero ?Go.Value.nilFunc
@[simp] theorem sz82 : szP Tryz.prog 82 = some 1 := by kernel_rfl
@[simp] theorem agg82 : aggP Tryz.prog 82 = some false := by kernel_rfl
@[simp] theorem str82 : strP Tryz.prog 82 = false := by kernel_rfl
@[simp] theorem conc82 : Tryz.prog.concrete 82 = true := by kernel_rfl
@[simp] theorem bytes82 : bytesP Tryz.prog 82 = some 8 := by kernel_rfl
-- 83: func zero ?Go.Value.nilFunc
@[simp] theorem sz83 : szP Tryz.prog 83 = some 1 := by kernel_rfl
@[simp] theorem agg83 : aggP Tryz.prog 83 = some false := by kernel_rfl
@[simp] theorem str83 : strP Tryz.prog 83 = false := by kernel_rfl
@[simp] theorem conc83 : Tryz.prog.concrete 83 = true := by kernel_rfl
@[simp] theorem bytes83 : bytesP Tryz.prog 83 = some 8 := by kernel_rfl
-- 84: func zero ?Go.Value.nilFunc
@[simp] theorem sz84 : szP Tryz.prog 84 = some 1 := by kernel_rfl
@[simp] theorem agg84 : aggP Tryz.prog 84 = some false := by kernel_rfl
@[simp] theorem str84 : strP Tryz.prog 84 = false := by kernel_rfl
@[simp] theorem conc84 : Tryz.prog.concrete 84 = true := by kernel_rfl
@[simp] theorem bytes84 : bytesP Tryz.prog 84 = some 8 := by kernel_rfl
-- 85: slice 32
@[simp] theorem sz85 : szP Tryz.prog 85 = some 1 := by kernel_rfl
@[simp] theorem agg85 : aggP Tryz.prog 85 = some false := by kernel_rfl
@[simp] theorem elem85 : elemP Tryz.prog 85 = some 32 := by kernel_rfl
@[simp] theorem str85 : strP Tryz.prog 85 = false := by kernel_rfl
@[simp] theorem und85 : (Program.underlying Tryz.prog 85).isSome = true := by kernel_rfl
@[simp] theorem conc85 : Tryz.prog.concrete 85 = true := by kernel_rfl
@[simp] theorem bytes85 : bytesP Tryz.prog 85 = some 24 := by kernel_rfl
@[simp] theorem zero85 : zeroP Tryz.prog 85 = some [(.slice none 0 0)] := by kernel_rfl
-- 86: func zero ?Go.Value.nilFunc
@[simp] theorem sz86 : szP Tryz.prog 86 = some 1 := by kernel_rfl
@[simp] theorem agg86 : aggP Tryz.prog 86 = some false := by kernel_rfl
@[simp] theorem str86 : strP Tryz.prog 86 = false := by kernel_rfl
@[simp] theorem conc86 : Tryz.prog.concrete 86 = true := by kernel_rfl
@[simp] theorem bytes86 : bytesP Tryz.prog 86 = some 8 := by kernel_rfl
-- 87: slice 41
@[simp] theorem sz87 : szP Tryz.prog 87 = some 1 := by kernel_rfl
@[simp] theorem agg87 : aggP Tryz.prog 87 = some false := by kernel_rfl
@[simp] theorem elem87 : elemP Tryz.prog 87 = some 41 := by kernel_rfl
@[simp] theorem str87 : strP Tryz.prog 87 = false := by kernel_rfl
@[simp] theorem und87 : (Program.underlying Tryz.prog 87).isSome = true := by kernel_rfl
@[simp] theorem conc87 : Tryz.prog.concrete 87 = true := by kernel_rfl
@[simp] theorem bytes87 : bytesP Tryz.prog 87 = some 24 := by kernel_rfl
@[simp] theorem zero87 : zeroP Tryz.prog 87 = some [(.slice none 0 0)] := by kernel_rfl
-- 88: func zero ?Go.Value.nilFunc
@[simp] theorem sz88 : szP Tryz.prog 88 = some 1 := by kernel_rfl
@[simp] theorem agg88 : aggP Tryz.prog 88 = some false := by kernel_rfl
@[simp] theorem str88 : strP Tryz.prog 88 = false := by kernel_rfl
@[simp] theorem conc88 : Tryz.prog.concrete 88 = true := by kernel_rfl
@[simp] theorem bytes88 : bytesP Tryz.prog 88 = some 8 := by kernel_rfl
-- 89: slice 30
@[simp] theorem sz89 : szP Tryz.prog 89 = some 1 := by kernel_rfl
@[simp] theorem agg89 : aggP Tryz.prog 89 = some false := by kernel_rfl
@[simp] theorem elem89 : elemP Tryz.prog 89 = some 30 := by kernel_rfl
@[simp] theorem str89 : strP Tryz.prog 89 = false := by kernel_rfl
@[simp] theorem und89 : (Program.underlying Tryz.prog 89).isSome = true := by kernel_rfl
@[simp] theorem conc89 : Tryz.prog.concrete 89 = true := by kernel_rfl
@[simp] theorem bytes89 : bytesP Tryz.prog 89 = some 24 := by kernel_rfl
@[simp] theorem zero89 : zeroP Tryz.prog 89 = some [(.slice none 0 0)] := by kernel_rfl
-- 90: array 2 32
@[simp] theorem sz90 : szP Tryz.prog 90 = some 16 := by kernel_rfl
@[simp] theorem agg90 : aggP Tryz.prog 90 = some true := by kernel_rfl
@[simp] theorem arr90 : arrP Tryz.prog 90 = some (2, 32) := by kernel_rfl
@[simp] theorem str90 : strP Tryz.prog 90 = false := by kernel_rfl
@[simp] theorem conc90 : Tryz.prog.concrete 90 = true := by kernel_rfl
@[simp] theorem bytes90 : bytesP Tryz.prog 90 = some 256 := by kernel_rfl
@[simp] theorem zero90 : zeroP Tryz.prog 90 = some [(.slice none 0 0), (.bool false), (.slice none 0 0), (.bool false), (.slice none 0 0), (.bool false), (.slice none 0 0), (.bool false), (.slice none 0 0), (.bool false), (.slice none 0 0), (.bool false), (.slice none 0 0), (.bool false), (.slice none 0 0), (.bool false)] := by kernel_rfl
-- 91: func zero ?Go.Value.nilFunc
@[simp] theorem sz91 : szP Tryz.prog 91 = some 1 := by kernel_rfl
@[simp] theorem agg91 : aggP Tryz.prog 91 = some false := by kernel_rfl
@[simp] theorem str91 : strP Tryz.prog 91 = false := by kernel_rfl
@[simp] theorem conc91 : Tryz.prog.concrete 91 = true := by kernel_rfl
@[simp] theorem bytes91 : bytesP Tryz.prog 91 = some 8 := by kernel_rfl
-- 92: func zero ?Go.Value.nilFunc
@[simp] theorem sz92 : szP Tryz.prog 92 = some 1 := by kernel_rfl
@[simp] theorem agg92 : aggP Tryz.prog 92 = some false := by kernel_rfl
@[simp] theorem str92 : strP Tryz.prog 92 = false := by kernel_rfl
@[simp] theorem conc92 : Tryz.prog.concrete 92 = true := by kernel_rfl
@[simp] theorem bytes92 : bytesP Tryz.prog 92 = some 8 := by kernel_rfl
-- 93: func zero ?Go.Value.nilFunc
@[simp] theorem sz93 : szP Tryz.prog 93 = some 1 := by kernel_rfl
@[simp] theorem agg93 : aggP Tryz.prog 93 = some false := by kernel_rfl
@[simp] theorem str93 : strP Tryz.prog 93 = false := by kernel_rfl
@[simp] theorem conc93 : Tryz.prog.concrete 93 = true := by kernel_rfl
@[simp] theorem bytes93 : bytesP Tryz.prog 93 = some 8 := by kernel_rfl
-- 94: func zero ?Go.Value.nilFunc
@[simp] theorem sz94 : szP Tryz.prog 94 = some 1 := by kernel_rfl
@[simp] theorem agg94 : aggP Tryz.prog 94 = some false := by kernel_rfl
@[simp] theorem str94 : strP Tryz.prog 94 = false := by kernel_rfl
@[simp] theorem conc94 : Tryz.prog.concrete 94 = true := by kernel_rfl
@[simp] theorem bytes94 : bytesP Tryz.prog 94 = some 8 := by kernel_rfl
-- 95: func zero ?Go.Value.nilFunc
@[simp] theorem sz95 : szP Tryz.prog 95 = some 1 := by kernel_rfl
@[simp] theorem agg95 : aggP Tryz.prog 95 = some false := by kernel_rfl
@[simp] theorem str95 : strP Tryz.prog 95 = false := by kernel_rfl
@[simp] theorem conc95 : Tryz.prog.concrete 95 = true := by kernel_rfl
@[simp] theorem bytes95 : bytesP Tryz.prog 95 = some 8 := by kernel_rfl
-- 96: func zero ?Go.Value.nilFunc
@[simp] theorem sz96 : szP Tryz.prog 96 = some 1 := by kernel_rfl
@[simp] theorem agg96 : aggP Tryz.prog 96 = some false := by kernel_rfl
@[simp] theorem str96 : strP Tryz.prog 96 = false := by kernel_rfl
@[simp] theorem conc96 : Tryz.prog.concrete 96 = true := by kernel_rfl
@[simp] theorem bytes96 : bytesP Tryz.prog 96 = some 8 := by kernel_rfl
-- 97: func zero ?Go.Value.nilFunc
@[simp] theorem sz97 : szP Tryz.prog 97 = some 1 := by kernel_rfl
@[simp] theorem agg97 : aggP Tryz.prog 97 = some false := by kernel_rfl
@[simp] theorem str97 : strP Tryz.prog 97 = false := by kernel_rfl
@[simp] theorem conc97 : Tryz.prog.concrete 97 = true := by kernel_rfl
@[simp] theorem bytes97 : bytesP Tryz.prog 97 = some 8 := by kernel_rfl
-- 98: struct 0:3 1:3 2:3
@[simp] theorem sz98 : szP Tryz.prog 98 = some 3 := by kernel_rfl
@[simp] theorem agg98 : aggP Tryz.prog 98 = some true := by kernel_rfl
@[simp] theorem str98 : strP Tryz.prog 98 = false := by kernel_rfl
@[simp] theorem conc98 : Tryz.prog.concrete 98 = true := by kernel_rfl
@[simp] theorem bytes98 : bytesP Tryz.prog 98 = some 24 := by kernel_rfl
@[simp] theorem zero98 : zeroP Tryz.prog 98 = some [(.int .i64 0), (.int .i64 0), (.int .i64 0)] := by kernel_rfl
@[simp] theorem field98_0 : fieldP Tryz.prog 98 0 = some (0, 3) := by kernel_rfl
@[simp] theorem field98_1 : fieldP Tryz.prog 98 1 = some (1, 3) := by kernel_rfl
@[simp] theorem field98_2 : fieldP Tryz.prog 98 2 = some (2, 3) := by kernel_rfl
-- 99: struct 0:3 1:3 2:3
@[simp] theorem sz99 : szP Tryz.prog 99 = some 3 := by kernel_rfl
@[simp] theorem agg99 : aggP Tryz.prog 99 = some true := by kernel_rfl
@[simp] theorem str99 : strP Tryz.prog 99 = false := by kernel_rfl
@[simp] theorem conc99 : Tryz.prog.concrete 99 = true := by kernel_rfl
@[simp] theorem bytes99 : bytesP Tryz.prog 99 = some 24 := by kernel_rfl
@[simp] theorem zero99 : zeroP Tryz.prog 99 = some [(.int .i64 0), (.int .i64 0), (.int .i64 0)] := by kernel_rfl
@[simp] theorem field99_0 : fieldP Tryz.prog 99 0 = some (0, 3) := by kernel_rfl
@[simp] theorem field99_1 : fieldP Tryz.prog 99 1 = some (1, 3) := by kernel_rfl
@[simp] theorem field99_2 : fieldP Tryz.prog 99 2 = some (2, 3) := by kernel_rfl
-- 100: func zero ?Go.Value.nilFunc
@[simp] theorem sz100 : szP Tryz.prog 100 = some 1 := by kernel_rfl
@[simp] theorem agg100 : aggP Tryz.prog 100 = some false := by kernel_rfl
@[simp] theorem str100 : strP Tryz.prog 100 = false := by kernel_rfl
@[simp] theorem conc100 : Tryz.prog.concrete 100 = true := by kernel_rfl
@[simp] theorem bytes100 : bytesP Tryz.prog 100 = some 8 := by kernel_rfl
-- 101: func zero ?Go.Value.nilFunc
@[simp] theorem sz101 : szP Tryz.prog 101 = some 1 := by kernel_rfl
@[simp] theorem agg101 : aggP Tryz.prog 101 = some false := by kernel_rfl
@[simp] theorem str101 : strP Tryz.prog 101 = false := by kernel_rfl
@[simp] theorem conc101 : Tryz.prog.concrete 101 = true := by kernel_rfl
@[simp] theorem bytes101 : bytesP Tryz.prog 101 = some 8 := by kernel_rfl
-- 102: func zero ?Go.Value.nilFunc
@[simp] theorem sz102 : szP Tryz.prog 102 = some 1 := by kernel_rfl
@[simp] theorem agg102 : aggP Tryz.prog 102 = some false := by kernel_rfl
@[simp] theorem str102 : strP Tryz.prog 102 = false := by kernel_rfl
@[simp] theorem conc102 : Tryz.prog.concrete 102 = true := by kernel_rfl
@[simp] theorem bytes102 : bytesP Tryz.prog 102 = some 8 := by kernel_rfl
-- 103: tuple
@[simp] theorem sz103 : szP Tryz.prog 103 = some 1 := by kernel_rfl
@[simp] theorem agg103 : aggP Tryz.prog 103 = some false := by kernel_rfl
@[simp] theorem str103 : strP Tryz.prog 103 = false := by kernel_rfl
@[simp] theorem conc103 : Tryz.prog.concrete 103 = true := by kernel_rfl
@[simp] theorem bytes103 : bytesP Tryz.prog 103 = some 0 := by kernel_rfl
-- 104: func zero ?Go.Value.nilFunc
@[simp] theorem sz104 : szP Tryz.prog 104 = some 1 := by kernel_rfl
@[simp] theorem agg104 : aggP Tryz.prog 104 = some false := by kernel_rfl
@[simp] theorem str104 : strP Tryz.prog 104 = false := by kernel_rfl
@[simp] theorem conc104 : Tryz.prog.concrete 104 = true := by kernel_rfl
@[simp] theorem bytes104 : bytesP Tryz.prog 104 = some 8 := by kernel_rfl
-- 105: func zero ?Go.Value.nilFunc
@[simp] theorem sz105 : szP Tryz.prog 105 = some 1 := by kernel_rfl
@[simp] theorem agg105 : aggP Tryz.prog 105 = some false := by kernel_rfl
@[simp] theorem str105 : strP Tryz.prog 105 = false := by kernel_rfl
@[simp] theorem conc105 : Tryz.prog.concrete 105 = true := by kernel_rfl
@[simp] theorem bytes105 : bytesP Tryz.prog 105 = some 8 := by kernel_rfl
-- 106: func zero ?Go.Value.nilFunc
@[simp] theorem sz106 : szP Tryz.prog 106 = some 1 := by kernel_rfl
@[simp] theorem agg106 : aggP Tryz.prog 106 = some false := by kernel_rfl
@[simp] theorem str106 : strP Tryz.prog 106 = false := by kernel_rfl
@[simp] theorem conc106 : Tryz.prog.concrete 106 = true := by kernel_rfl
@[simp] theorem bytes106 : bytesP Tryz.prog 106 = some 8 := by kernel_rfl
-- 107: func zero ?Go.Value.nilFunc
@[simp] theorem sz107 : szP Tryz.prog 107 = some 1 := by kernel_rfl
@[simp] theorem agg107 : aggP Tryz.prog 107 = some false := by kernel_rfl
@[simp] theorem str107 : strP Tryz.prog 107 = false := by kernel_rfl
@[simp] theorem conc107 : Tryz.prog.concrete 107 = true := by kernel_rfl
@[simp] theorem bytes107 : bytesP Tryz.prog 107 = some 8 := by kernel_rfl
-- 108: func zero ?Go.Value.nilFunc
@[simp] theorem sz108 : szP Tryz.prog 108 = some 1 := by kernel_rfl
@[simp] theorem agg108 : aggP Tryz.prog 108 = some false := by kernel_rfl
@[simp] theorem str108 : strP Tryz.prog 108 = false := by kernel_rfl
@[simp] theorem conc108 : Tryz.prog.concrete 108 = true := by kernel_rfl
@[simp] theorem bytes108 : bytesP Tryz.prog 108 = some 8 := by kernel_rfl
-- 109: func zero ?Go.Value.nilFunc
@[simp] theorem sz109 : szP Tryz.prog 109 = some 1 := by kernel_rfl
@[simp] theorem agg109 : aggP Tryz.prog 109 = some false := by kernel_rfl
@[simp] theorem str109 : strP Tryz.prog 109 = false := by kernel_rfl
@[simp] theorem conc109 : Tryz.prog.concrete 109 = true := by kernel_rfl
@[simp] theorem bytes109 : bytesP Tryz.prog 109 = some 8 := by kernel_rfl
-- 110: int u64
@[simp] theorem sz110 : szP Tryz.prog 110 = some 1 := by kernel_rfl
@[simp] theorem agg110 : aggP Tryz.prog 110 = some false := by kernel_rfl
@[simp] theorem int110 : intP Tryz.prog 110 = some .u64 := by kernel_rfl
@[simp] theorem str110 : strP Tryz.prog 110 = false := by kernel_rfl
@[simp] theorem und110 : (Program.underlying Tryz.prog 110).isSome = true := by kernel_rfl
@[simp] theorem conc110 : Tryz.prog.concrete 110 = true := by kernel_rfl
@[simp] theorem bytes110 : bytesP Tryz.prog 110 = some 8 := by kernel_rfl
@[simp] theorem zero110 : zeroP Tryz.prog 110 = some [(.int .u64 0)] := by kernel_rfl
-- 111: func zero ?Go.Value.nilFunc
@[simp] theorem sz111 : szP Tryz.prog 111 = some 1 := by kernel_rfl
@[simp] theorem agg111 : aggP Tryz.prog 111 = some false := by kernel_rfl
@[simp] theorem str111 : strP Tryz.prog 111 = false := by kernel_rfl
@[simp] theorem conc111 : Tryz.prog.concrete 111 = true := by kernel_rfl
@[simp] theorem bytes111 : bytesP Tryz.prog 111 = some 8 := by kernel_rfl
-- 112: func zero ?Go.Value.nilFunc
@[simp] theorem sz112 : szP Tryz.prog 112 = some 1 := by kernel_rfl
@[simp] theorem agg112 : aggP Tryz.prog 112 = some false := by kernel_rfl
@[simp] theorem str112 : strP Tryz.prog 112 = false := by kernel_rfl
@[simp] theorem conc112 : Tryz.prog.concrete 112 = true := by kernel_rfl
@[simp] theorem bytes112 : bytesP Tryz.prog 112 = some 8 := by kernel_rfl
-- 113: func zero ?Go.Value.nilFunc
@[simp] theorem sz113 : szP Tryz.prog 113 = some 1 := by kernel_rfl
@[simp] theorem agg113 : aggP Tryz.prog 113 = some false := by kernel_rfl
@[simp] theorem str113 : strP Tryz.prog 113 = false := by kernel_rfl
@[simp] theorem conc113 : Tryz.prog.concrete 113 = true := by kernel_rfl
@[simp] theorem bytes113 : bytesP Tryz.prog 113 = some 8 := by kernel_rfl
-- 114: func zero ?Go.Value.nilFunc
@[simp] theorem sz114 : szP Tryz.prog 114 = some 1 := by kernel_rfl
@[simp] theorem agg114 : aggP Tryz.prog 114 = some false := by kernel_rfl
@[simp] theorem str114 : strP Tryz.prog 114 = false := by kernel_rfl
@[simp] theorem conc114 : Tryz.prog.concrete 114 = true := by kernel_rfl
@[simp] theorem bytes114 : bytesP Tryz.prog 114 = some 8 := by kernel_rfl
-- 115: func zero ?Go.Value.nilFunc
@[simp] theorem sz115 : szP Tryz.prog 115 = some 1 := by kernel_rfl
@[simp] theorem agg115 : aggP Tryz.prog 115 = some false := by kernel_rfl
@[simp] theorem str115 : strP Tryz.prog 115 = false := by kernel_rfl
@[simp] theorem conc115 : Tryz.prog.concrete 115 = true := by kernel_rfl
@[simp] theorem bytes115 : bytesP Tryz.prog 115 = some 8 := by kernel_rfl
-- 116: tuple
@[simp] theorem sz116 : szP Tryz.prog 116 = some 1 := by kernel_rfl
@[simp] theorem agg116 : aggP Tryz.prog 116 = some false := by kernel_rfl
@[simp] theorem str116 : strP Tryz.prog 116 = false := by kernel_rfl
@[simp] theorem conc116 : Tryz.prog.concrete 116 = true := by kernel_rfl
@[simp] theorem bytes116 : bytesP Tryz.prog 116 = some 0 := by kernel_rfl
-- 117: func zero ?Go.Value.nilFunc
@[simp] theorem sz117 : szP Tryz.prog 117 = some 1 := by kernel_rfl
@[simp] theorem agg117 : aggP Tryz.prog 117 = some false := by kernel_rfl
@[simp] theorem str117 : strP Tryz.prog 117 = false := by kernel_rfl
@[simp] theorem conc117 : Tryz.prog.concrete 117 = true := by kernel_rfl
@[simp] theorem bytes117 : bytesP Tryz.prog 117 = some 8 := by kernel_rfl
-- 118: func zero ?Go.Value.nilFunc
@[simp] theorem sz118 : szP Tryz.prog 118 = some 1 := by kernel_rfl
@[simp] theorem agg118 : aggP Tryz.prog 118 = some false := by kernel_rfl
@[simp] theorem str118 : strP Tryz.prog 118 = false := by kernel_rfl
@[simp] theorem conc118 : Tryz.prog.concrete 118 = true := by kernel_rfl
@[simp] theorem bytes118 : bytesP Tryz.prog 118 = some 8 := by kernel_rfl
-- 119: func zero ?Go.Value.nilFunc
@[simp] theorem sz119 : szP Tryz.prog 119 = some 1 := by kernel_rfl
@[simp] theorem agg119 : aggP Tryz.prog 119 = some false := by kernel_rfl
@[simp] theorem str119 : strP Tryz.prog 119 = false := by kernel_rfl
@[simp] theorem conc119 : Tryz.prog.concrete 119 = true := by kernel_rfl
@[simp] theorem bytes119 : bytesP Tryz.prog 119 = some 8 := by kernel_rfl
-- 120: func zero ?Go.Value.nilFunc
@[simp] theorem sz120 : szP Tryz.prog 120 = some 1 := by kernel_rfl
@[simp] theorem agg120 : aggP Tryz.prog 120 = some false := by kernel_rfl
@[simp] theorem str120 : strP Tryz.prog 120 = false := by kernel_rfl
@[simp] theorem conc120 : Tryz.prog.concrete 120 = true := by kernel_rfl
@[simp] theorem bytes120 : bytesP Tryz.prog 120 = some 8 := by kernel_rfl
-- 121: func zero ?Go.Value.nilFunc
@[simp] theorem sz121 : szP Tryz.prog 121 = some 1 := by kernel_rfl
@[simp] theorem agg121 : aggP Tryz.prog 121 = some false := by kernel_rfl
@[simp] theorem str121 : strP Tryz.prog 121 = false := by kernel_rfl
@[simp] theorem conc121 : Tryz.prog.concrete 121 = true := by kernel_rfl
@[simp] theorem bytes121 : bytesP Tryz.prog 121 = some 8 := by kernel_rfl
-- 122: func zero ?Go.Value.nilFunc
@[simp] theorem sz122 : szP Tryz.prog 122 = some 1 := by kernel_rfl
@[simp] theorem agg122 : aggP Tryz.prog 122 = some false := by kernel_rfl
@[simp] theorem str122 : strP Tryz.prog 122 = false := by kernel_rfl
@[simp] theorem conc122 : Tryz.prog.concrete 122 = true := by kernel_rfl
@[simp] theorem bytes122 : bytesP Tryz.prog 122 = some 8 := by kernel_rfl
-- 123: func zero ?Go.Value.nilFunc
@[simp] theorem sz123 : szP Tryz.prog 123 = some 1 := by kernel_rfl
@[simp] theorem agg123 : aggP Tryz.prog 123 = some false := by kernel_rfl
@[simp] theorem str123 : strP Tryz.prog 123 = false := by kernel_rfl
@[simp] theorem conc123 : Tryz.prog.concrete 123 = true := by kernel_rfl
@[simp] theorem bytes123 : bytesP Tryz.prog 123 = some 8 := by kernel_rfl
-- 124: func zero ?Go.Value.nilFunc
@[simp] theorem sz124 : szP Tryz.prog 124 = some 1 := by kernel_rfl
@[simp] theorem agg124 : aggP Tryz.prog 124 = some false := by kernel_rfl
@[simp] theorem str124 : strP Tryz.prog 124 = false := by kernel_rfl
@[simp] theorem conc124 : Tryz.prog.concrete 124 = true := by kernel_rfl
@[simp] theorem bytes124 : bytesP Tryz.prog 124 = some 8 := by kernel_rfl
-- 125: func zero ?Go.Value.nilFunc
@[simp] theorem sz125 : szP Tryz.prog 125 = some 1 := by kernel_rfl
@[simp] theorem agg125 : aggP Tryz.prog 125 = some false := by kernel_rfl
@[simp] theorem str125 : strP Tryz.prog 125 = false := by kernel_rfl
@[simp] theorem conc125 : Tryz.prog.concrete 125 = true := by kernel_rfl
@[simp] theorem bytes125 : bytesP Tryz.prog 125 = some 8 := by kernel_rfl
-- 126: func zero ?Go.Value.nilFunc
@[simp] theorem sz126 : szP Tryz.prog 126 = some 1 := by kernel_rfl
@[simp] theorem agg126 : aggP Tryz.prog 126 = some false := by kernel_rfl
@[simp] theorem str126 : strP Tryz.prog 126 = false := by kernel_rfl
@[simp] theorem conc126 : Tryz.prog.concrete 126 = true := by kernel_rfl
@[simp] theorem bytes126 : bytesP Tryz.prog 126 = some 8 := by kernel_rfl
-- 127: func zero ?Go.Value.nilFunc
@[simp] theorem sz127 : szP Tryz.prog 127 = some 1 := by kernel_rfl
@[simp] theorem agg127 : aggP Tryz.prog 127 = some false := by kernel_rfl
@[simp] theorem str127 : strP Tryz.prog 127 = false := by kernel_rfl
@[simp] theorem conc127 : Tryz.prog.concrete 127 = true := by kernel_rfl
@[simp] theorem bytes127 : bytesP Tryz.prog 127 = some 8 := by kernel_rfl
-- 128: func zero ?Go.Value.nilFunc
@[simp] theorem sz128 : szP Tryz.prog 128 = some 1 := by kernel_rfl
@[simp] theorem agg128 : aggP Tryz.prog 128 = some false := by kernel_rfl
@[simp] theorem str128 : strP Tryz.prog 128 = false := by kernel_rfl
@[simp] theorem conc128 : Tryz.prog.concrete 128 = true := by kernel_rfl
@[simp] theorem bytes128 : bytesP Tryz.prog 128 = some 8 := by kernel_rfl
-- 129: func zero ?Go.Value.nilFunc
@[simp] theorem sz129 : szP Tryz.prog 129 = some 1 := by kernel_rfl
@[simp] theorem agg129 : aggP Tryz.prog 129 = some false := by kernel_rfl
@[simp] theorem str129 : strP Tryz.prog 129 = false := by kernel_rfl
@[simp] theorem conc129 : Tryz.prog.concrete 129 = true := by kernel_rfl
@[simp] theorem bytes129 : bytesP Tryz.prog 129 = some 8 := by kernel_rfl
-- 130: func zero ?Go.Value.nilFunc
@[simp] theorem sz130 : szP Tryz.prog 130 = some 1 := by kernel_rfl
@[simp] theorem agg130 : aggP Tryz.prog 130 = some false := by kernel_rfl
@[simp] theorem str130 : strP Tryz.prog 130 = false := by kernel_rfl
@[simp] theorem conc130 : Tryz.prog.concrete 130 = true := by kernel_rfl
@[simp] theorem bytes130 : bytesP Tryz.prog 130 = some 8 := by kernel_rfl
-- 131: func zero ?Go.Value.nilFunc
@[simp] theorem sz131 : szP Tryz.prog 131 = some 1 := by kernel_rfl
@[simp] theorem agg131 : aggP Tryz.prog 131 = some false := by kernel_rfl
@[simp] theorem str131 : strP Tryz.prog 131 = false := by kernel_rfl
@[simp] theorem conc131 : Tryz.prog.concrete 131 = true := by kernel_rfl
@[simp] theorem bytes131 : bytesP Tryz.prog 131 = some 8 := by kernel_rfl
-- 132: array 4 41
@[simp] theorem sz132 : szP Tryz.prog 132 = some 24 := by kernel_rfl
@[simp] theorem agg132 : aggP Tryz.prog 132 = some true := by kernel_rfl
@[simp] theorem arr132 : arrP Tryz.prog 132 = some (4, 41) := by kernel_rfl
@[simp] theorem str132 : strP Tryz.prog 132 = false := by kernel_rfl
@[simp] theorem conc132 : Tryz.prog.concrete 132 = true := by kernel_rfl
@[simp] theorem bytes132 : bytesP Tryz.prog 132 = some 384 := by kernel_rfl
@[simp] theorem zero132 : zeroP Tryz.prog 132 = some [(.int .i64 0), (.slice none 0 0), (.int .i64 0), (.slice none 0 0), (.int .i64 0), (.slice none 0 0), (.int .i64 0), (.slice none 0 0), (.int .i64 0), (.slice none 0 0), (.int .i64 0), (.slice none 0 0), (.int .i64 0), (.slice none 0 0), (.int .i64 0), (.slice none 0 0), (.int .i64 0), (.slice none 0 0), (.int .i64 0), (.slice none 0 0), (.int .i64 0), (.slice none 0 0), (.int .i64 0), (.slice none 0 0)] := by kernel_rfl
-- 133: func zero ?Go.Value.nilFunc
@[simp] theorem sz133 : szP Tryz.prog 133 = some 1 := by kernel_rfl
@[simp] theorem agg133 : aggP Tryz.prog 133 = some false := by kernel_rfl
@[simp] theorem str133 : strP Tryz.prog 133 = false := by kernel_rfl
@[simp] theorem conc133 : Tryz.prog.concrete 133 = true := by kernel_rfl
@[simp] theorem bytes133 : bytesP Tryz.prog 133 = some 8 := by kernel_rfl
-- 134: func zero ?Go.Value.nilFunc
@[simp] theorem sz134 : szP Tryz.prog 134 = some 1 := by kernel_rfl
@[simp] theorem agg134 : aggP Tryz.prog 134 = some false := by kernel_rfl
@[simp] theorem str134 : strP Tryz.prog 134 = false := by kernel_rfl
@[simp] theorem conc134 : Tryz.prog.concrete 134 = true := by kernel_rfl
@[simp] theorem bytes134 : bytesP Tryz.prog 134 = some 8 := by kernel_rfl
-- 135: func zero ?Go.Value.nilFunc
@[simp] theorem sz135 : szP Tryz.prog 135 = some 1 := by kernel_rfl
@[simp] theorem agg135 : aggP Tryz.prog 135 = some false := by kernel_rfl
@[simp] theorem str135 : strP Tryz.prog 135 = false := by kernel_rfl
@[simp] theorem conc135 : Tryz.prog.concrete 135 = true := by kernel_rfl
@[simp] theorem bytes135 : bytesP Tryz.prog 135 = some 8 := by kernel_rfl
-- 136: func zero ?Go.Value.nilFunc
@[simp] theorem sz136 : szP Tryz.prog 136 = some 1 := by kernel_rfl
@[simp] theorem agg136 : aggP Tryz.prog 136 = some false := by kernel_rfl
@[simp] theorem str136 : strP Tryz.prog 136 = false := by kernel_rfl
@[simp] theorem conc136 : Tryz.prog.concrete 136 = true := by kernel_rfl
@[simp] theorem bytes136 : bytesP Tryz.prog 136 = some 8 := by kernel_rfl
-- 137: array 7 99
@[simp] theorem sz137 : szP Tryz.prog 137 = some 21 := by kernel_rfl
@[simp] theorem agg137 : aggP Tryz.prog 137 = some true := by kernel_rfl
@[simp] theorem arr137 : arrP Tryz.prog 137 = some (7, 99) := by kernel_rfl
@[simp] theorem str137 : strP Tryz.prog 137 = false := by kernel_rfl
@[simp] theorem conc137 : Tryz.prog.concrete 137 = true := by kernel_rfl
@[simp] theorem bytes137 : bytesP Tryz.prog 137 = some 168 := by kernel_rfl
@[simp] theorem zero137 : zeroP Tryz.prog 137 = some [(.int .i64 0), (.int .i64 0), (.int .i64 0), (.int .i64 0), (.int .i64 0), (.int .i64 0), (.int .i64 0), (.int .i64 0), (.int .i64 0), (.int .i64 0), (.int .i64 0), (.int .i64 0), (.int .i64 0), (.int .i64 0), (.int .i64 0), (.int .i64 0), (.int .i64 0), (.int .i64 0), (.int .i64 0), (.int .i64 0), (.int .i64 0)] := by kernel_rfl
-- 138: func zero ?Go.Value.nilFunc
@[simp] theorem sz138 : szP Tryz.prog 138 = some 1 := by kernel_rfl
@[simp] theorem agg138 : aggP Tryz.prog 138 = some false := by kernel_rfl
@[simp] theorem str138 : strP Tryz.prog 138 = false := by kernel_rfl
@[simp] theorem conc138 : Tryz.prog.concrete 138 = true := by kernel_rfl
@[simp] theorem bytes138 : bytesP Tryz.prog 138 = some 8 := by kernel_rfl
-- 139: tuple
@[simp] theorem sz139 : szP Tryz.prog 139 = some 1 := by kernel_rfl
@[simp] theorem agg139 : aggP Tryz.prog 139 = some false := by kernel_rfl
@[simp] theorem str139 : strP Tryz.prog 139 = false := by kernel_rfl
@[simp] theorem conc139 : Tryz.prog.concrete 139 = true := by kernel_rfl
@[simp] theorem bytes139 : bytesP Tryz.prog 139 = some 0 := by kernel_rfl
-- 140: func zero ?Go.Value.nilFunc
@[simp] theorem sz140 : szP Tryz.prog 140 = some 1 := by kernel_rfl
@[simp] theorem agg140 : aggP Tryz.prog 140 = some false := by kernel_rfl
@[simp] theorem str140 : strP Tryz.prog 140 = false := by kernel_rfl
@[simp] theorem conc140 : Tryz.prog.concrete 140 = true := by kernel_rfl
@[simp] theorem bytes140 : bytesP Tryz.prog 140 = some 8 := by kernel_rfl
-- 141: func zero ?Go.Value.nilFunc
@[simp] theorem sz141 : szP Tryz.prog 141 = some 1 := by kernel_rfl
@[simp] theorem agg141 : aggP Tryz.prog 141 = some false := by kernel_rfl
@[simp] theorem str141 : strP Tryz.prog 141 = false := by kernel_rfl
@[simp] theorem conc141 : Tryz.prog.concrete 141 = true := by kernel_rfl
@[simp] theorem bytes141 : bytesP Tryz.prog 141 = some 8 := by kernel_rfl
-- 142: func zero ?Go.Value.nilFunc
@[simp] theorem sz142 : szP Tryz.prog 142 = some 1 := by kernel_rfl
@[simp] theorem agg142 : aggP Tryz.prog 142 = some false := by kernel_rfl
@[simp] theorem str142 : strP Tryz.prog 142 = false := by kernel_rfl
@[simp] theorem conc142 : Tryz.prog.concrete 142 = true := by kernel_rfl
@[simp] theorem bytes142 : bytesP Tryz.prog 142 = some 8 := by kernel_rfl
-- 143: func zero ?Go.Value.nilFunc
@[simp] theorem sz143 : szP Tryz.prog 143 = some 1 := by kernel_rfl
@[simp] theorem agg143 : aggP Tryz.prog 143 = some false := by kernel_rfl
@[simp] theorem str143 : strP Tryz.prog 143 = false := by kernel_rfl
@[simp] theorem conc143 : Tryz.prog.concrete 143 = true := by kernel_rfl
@[simp] theorem bytes143 : bytesP Tryz.prog 143 = some 8 := by kernel_rfl
-- 144: func zero ?Go.Value.nilFunc
@[simp] theorem sz144 : szP Tryz.prog 144 = some 1 := by kernel_rfl
@[simp] theorem agg144 : aggP Tryz.prog 144 = some false := by kernel_rfl
@[simp] theorem str144 : strP Tryz.prog 144 = false := by kernel_rfl
@[simp] theorem conc144 : Tryz.prog.concrete 144 = true := by kernel_rfl
@[simp] theorem bytes144 : bytesP Tryz.prog 144 = some 8 := by kernel_rfl
-- 145: tuple
@[simp] theorem sz145 : szP Tryz.prog 145 = some 1 := by kernel_rfl
@[simp] theorem agg145 : aggP Tryz.prog 145 = some false := by kernel_rfl
@[simp] theorem str145 : strP Tryz.prog 145 = false := by kernel_rfl
@[simp] theorem conc145 : Tryz.prog.concrete 145 = true := by kernel_rfl
@[simp] theorem bytes145 : bytesP Tryz.prog 145 = some 0 := by kernel_rfl
-- 146: func zero ?Go.Value.nilFunc
@[simp] theorem sz146 : szP Tryz.prog 146 = some 1 := by kernel_rfl
@[simp] theorem agg146 : aggP Tryz.prog 146 = some false := by kernel_rfl
@[simp] theorem str146 : strP Tryz.prog 146 = false := by kernel_rfl
@[simp] theorem conc146 : Tryz.prog.concrete 146 = true := by kernel_rfl
@[simp] theorem bytes146 : bytesP Tryz.prog 146 = some 8 := by kernel_rfl
-- 147: func zero ?Go.Value.nilFunc
@[simp] theorem sz147 : szP Tryz.prog 147 = some 1 := by kernel_rfl
@[simp] theorem agg147 : aggP Tryz.prog 147 = some false := by kernel_rfl
@[simp] theorem str147 : strP Tryz.prog 147 = false := by kernel_rfl
@[simp] theorem conc147 : Tryz.prog.concrete 147 = true := by kernel_rfl
@[simp] theorem bytes147 : bytesP Tryz.prog 147 = some 8 := by kernel_rfl
-- 148: tuple
@[simp] theorem sz148 : szP Tryz.prog 148 = some 1 := by kernel_rfl
@[simp] theorem agg148 : aggP Tryz.prog 148 = some false := by kernel_rfl
@[simp] theorem str148 : strP Tryz.prog 148 = false := by kernel_rfl
@[simp] theorem conc148 : Tryz.prog.concrete 148 = true := by kernel_rfl
@[simp] theorem bytes148 : bytesP Tryz.prog 148 = some 0 := by kernel_rfl
-- 149: func zero ?Go.Value.nilFunc
@[simp] theorem sz149 : szP Tryz.prog 149 = some 1 := by kernel_rfl
@[simp] theorem agg149 : aggP Tryz.prog 149 = some false := by kernel_rfl
@[simp] theorem str149 : strP Tryz.prog 149 = false := by kernel_rfl
@[simp] theorem conc149 : Tryz.prog.concrete 149 = true := by kernel_rfl
@[simp] theorem bytes149 : bytesP Tryz.prog 149 = some 8 := by kernel_rfl
-- 150: func zero ?Go.Value.nilFunc
@[simp] theorem sz150 : szP Tryz.prog 150 = some 1 := by kernel_rfl
@[simp] theorem agg150 : aggP Tryz.prog 150 = some false := by kernel_rfl
@[simp] theorem str150 : strP Tryz.prog 150 = false := by kernel_rfl
@[simp] theorem conc150 : Tryz.prog.concrete 150 = true := by kernel_rfl
@[simp] theorem bytes150 : bytesP Tryz.prog 150 = some 8 := by kernel_rfl
-- 151: tuple
@[simp] theorem sz151 : szP Tryz.prog 151 = some 1 := by kernel_rfl
@[simp] theorem agg151 : aggP Tryz.prog 151 = some false := by kernel_rfl
@[simp] theorem str151 : strP Tryz.prog 151 = false := by kernel_rfl
@[simp] theorem conc151 : Tryz.prog.concrete 151 = true := by kernel_rfl
@[simp] theorem bytes151 : bytesP Tryz.prog 151 = some 0 := by kernel_rfl
-- 152: func zero ?Go.Value.nilFunc
@[simp] theorem sz152 : szP Tryz.prog 152 = some 1 := by kernel_rfl
@[simp] theorem agg152 : aggP Tryz.prog 152 = some false := by kernel_rfl
@[simp] theorem str152 : strP Tryz.prog 152 = false := by kernel_rfl
@[simp] theorem conc152 : Tryz.prog.concrete 152 = true := by kernel_rfl
@[simp] theorem bytes152 : bytesP Tryz.prog 152 = some 8 := by kernel_rfl
-- 153: func zero ?Go.Value.nilFunc
@[simp] theorem sz153 : szP Tryz.prog 153 = some 1 := by kernel_rfl
@[simp] theorem agg153 : aggP Tryz.prog 153 = some false := by kernel_rfl
@[simp] theorem str153 : strP Tryz.prog 153 = false := by kernel_rfl
@[simp] theorem conc153 : Tryz.prog.concrete 153 = true := by kernel_rfl
@[simp] theorem bytes153 : bytesP Tryz.prog 153 = some 8 := by kernel_rfl
-- 154: int u32
@[simp] theorem sz154 : szP Tryz.prog 154 = some 1 := by kernel_rfl
@[simp] theorem agg154 : aggP Tryz.prog 154 = some false := by kernel_rfl
@[simp] theorem int154 : intP Tryz.prog 154 = some .u32 := by kernel_rfl
@[simp] theorem str154 : strP Tryz.prog 154 = false := by kernel_rfl
@[simp] theorem und154 : (Program.underlying Tryz.prog 154).isSome = true := by kernel_rfl
@[simp] theorem conc154 : Tryz.prog.concrete 154 = true := by kernel_rfl
@[simp] theorem bytes154 : bytesP Tryz.prog 154 = some 4 := by kernel_rfl
@[simp] theorem zero154 : zeroP Tryz.prog 154 = some [(.int .u32 0)] := by kernel_rfl
-- 155: int u64
@[simp] theorem sz155 : szP Tryz.prog 155 = some 1 := by kernel_rfl
@[simp] theorem agg155 : aggP Tryz.prog 155 = some false := by kernel_rfl
@[simp] theorem int155 : intP Tryz.prog 155 = some .u64 := by kernel_rfl
@[simp] theorem str155 : strP Tryz.prog 155 = false := by kernel_rfl
@[simp] theorem und155 : (Program.underlying Tryz.prog 155).isSome = true := by kernel_rfl
@[simp] theorem conc155 : Tryz.prog.concrete 155 = true := by kernel_rfl
@[simp] theorem bytes155 : bytesP Tryz.prog 155 = some 8 := by kernel_rfl
@[simp] theorem zero155 : zeroP Tryz.prog 155 = some [(.int .u64 0)] := by kernel_rfl
-- 156: slice 5
@[simp] theorem sz156 : szP Tryz.prog 156 = some 1 := by kernel_rfl
@[simp] theorem agg156 : aggP Tryz.prog 156 = some false := by kernel_rfl
@[simp] theorem elem156 : elemP Tryz.prog 156 = some 5 := by kernel_rfl
@[simp] theorem str156 : strP Tryz.prog 156 = false := by kernel_rfl
@[simp] theorem und156 : (Program.underlying Tryz.prog 156).isSome = true := by kernel_rfl
@[simp] theorem conc156 : Tryz.prog.concrete 156 = true := by kernel_rfl
@[simp] theorem bytes156 : bytesP Tryz.prog 156 = some 24 := by kernel_rfl
@[simp] theorem zero156 : zeroP Tryz.prog 156 = some [(.slice none 0 0)] := by kernel_rfl
-- 157: tuple
@[simp] theorem sz157 : szP Tryz.prog 157 = some 1 := by kernel_rfl
@[simp] theorem agg157 : aggP Tryz.prog 157 = some false := by kernel_rfl
@[simp] theorem str157 : strP Tryz.prog 157 = false := by kernel_rfl
@[simp] theorem conc157 : Tryz.prog.concrete 157 = true := by kernel_rfl
@[simp] theorem bytes157 : bytesP Tryz.prog 157 = some 0 := by kernel_rfl
-- 158: func zero ?Go.Value.nilFunc
@[simp] theorem sz158 : szP Tryz.prog 158 = some 1 := by kernel_rfl
@[simp] theorem agg158 : aggP Tryz.prog 158 = some false := by kernel_rfl
@[simp] theorem str158 : strP Tryz.prog 158 = false := by kernel_rfl
@[simp] theorem conc158 : Tryz.prog.concrete 158 = true := by kernel_rfl
@[simp] theorem bytes158 : bytesP Tryz.prog 158 = some 8 := by kernel_rfl
-- 159: func zero ?Go.Value.nilFunc
@[simp] theorem sz159 : szP Tryz.prog 159 = some 1 := by kernel_rfl
@[simp] theorem agg159 : aggP Tryz.prog 159 = some false := by kernel_rfl
@[simp] theorem str159 : strP Tryz.prog 159 = false := by kernel_rfl
@[simp] theorem conc159 : Tryz.prog.concrete 159 = true := by kernel_rfl
@[simp] theorem bytes159 : bytesP Tryz.prog 159 = some 8 := by kernel_rfl
-- 160: func zero ?Go.Value.nilFunc
@[simp] theorem sz160 : szP Tryz.prog 160 = some 1 := by kernel_rfl
@[simp] theorem agg160 : aggP Tryz.prog 160 = some false := by kernel_rfl
@[simp] theorem str160 : strP Tryz.prog 160 = false := by kernel_rfl
@[simp] theorem conc160 : Tryz.prog.concrete 160 = true := by kernel_rfl
@[simp] theorem bytes160 : bytesP Tryz.prog 160 = some 8 := by kernel_rfl
-- 161: func zero ?Go.Value.nilFunc
@[simp] theorem sz161 : szP Tryz.prog 161 = some 1 := by kernel_rfl
@[simp] theorem agg161 : aggP Tryz.prog 161 = some false := by kernel_rfl
@[simp] theorem str161 : strP Tryz.prog 161 = false := by kernel_rfl
@[simp] theorem conc161 : Tryz.prog.concrete 161 = true := by kernel_rfl
@[simp] theorem bytes161 : bytesP Tryz.prog 161 = some 8 := by kernel_rfl
-- 162: tuple
@[simp] theorem sz162 : szP Tryz.prog 162 = some 1 := by kernel_rfl
@[simp] theorem agg162 : aggP Tryz.prog 162 = some false := by kernel_rfl
@[simp] theorem str162 : strP Tryz.prog 162 = false := by kernel_rfl
@[simp] theorem conc162 : Tryz.prog.concrete 162 = true := by kernel_rfl
@[simp] theorem bytes162 : bytesP Tryz.prog 162 = some 0 := by kernel_rfl
-- 163: func zero ?Go.Value.nilFunc
@[simp] theorem sz163 : szP Tryz.prog 163 = some 1 := by kernel_rfl
@[simp] theorem agg163 : aggP Tryz.prog 163 = some false := by kernel_rfl
@[simp] theorem str163 : strP Tryz.prog 163 = false := by kernel_rfl
@[simp] theorem conc163 : Tryz.prog.concrete 163 = true := by kernel_rfl
@[simp] theorem bytes163 : bytesP Tryz.prog 163 = some 8 := by kernel_rfl
-- 164: func zero ?Go.Value.nilFunc
@[simp] theorem sz164 : szP Tryz.prog 164 = some 1 := by kernel_rfl
@[simp] theorem agg164 : aggP Tryz.prog 164 = some false := by kernel_rfl
@[simp] theorem str164 : strP Tryz.prog 164 = false := by kernel_rfl
@[simp] theorem conc164 : Tryz.prog.concrete 164 = true := by kernel_rfl
@[simp] theorem bytes164 : bytesP Tryz.prog 164 = some 8 := by kernel_rfl
-- 165: func zero ?Go.Value.nilFunc
@[simp] theorem sz165 : szP Tryz.prog 165 = some 1 := by kernel_rfl
@[simp] theorem agg165 : aggP Tryz.prog 165 = some false := by kernel_rfl
@[simp] theorem str165 : strP Tryz.prog 165 = false := by kernel_rfl
@[simp] theorem conc165 : Tryz.prog.concrete 165 = true := by kernel_rfl
@[simp] theorem bytes165 : bytesP Tryz.prog 165 = some 8 := by kernel_rfl
-- 166: func zero ?Go.Value.nilFunc
@[simp] theorem sz166 : szP Tryz.prog 166 = some 1 := by kernel_rfl
@[simp] theorem agg166 : aggP Tryz.prog 166 = some false := by kernel_rfl
@[simp] theorem str166 : strP Tryz.prog 166 = false := by kernel_rfl
@[simp] theorem conc166 : Tryz.prog.concrete 166 = true := by kernel_rfl
@[simp] theorem bytes166 : bytesP Tryz.prog 166 = some 8 := by kernel_rfl
-- 167: func zero ?Go.Value.nilFunc
@[simp] theorem sz167 : szP Tryz.prog 167 = some 1 := by kernel_rfl
@[simp] theorem agg167 : aggP Tryz.prog 167 = some false := by kernel_rfl
@[simp] theorem str167 : strP Tryz.prog 167 = false := by kernel_rfl
@[simp] theorem conc167 : Tryz.prog.concrete 167 = true := by kernel_rfl
@[simp] theorem bytes167 : bytesP Tryz.prog 167 = some 8 := by kernel_rfl
-- 168: struct 0:17 1:17 2:17 3:9
@[simp] theorem sz168 : szP Tryz.prog 168 = some 4 := by kernel_rfl
@[simp] theorem agg168 : aggP Tryz.prog 168 = some true := by kernel_rfl
@[simp] theorem str168 : strP Tryz.prog 168 = false := by kernel_rfl
@[simp] theorem conc168 : Tryz.prog.concrete 168 = true := by kernel_rfl
@[simp] theorem bytes168 : bytesP Tryz.prog 168 = some 40 := by kernel_rfl
@[simp] theorem zero168 : zeroP Tryz.prog 168 = some [(.pointer none), (.pointer none), (.pointer none), (.string ⟨#[]⟩)] := by kernel_rfl
@[simp] theorem field168_0 : fieldP Tryz.prog 168 0 = some (0, 17) := by kernel_rfl
@[simp] theorem field168_1 : fieldP Tryz.prog 168 1 = some (1, 17) := by kernel_rfl
@[simp] theorem field168_2 : fieldP Tryz.prog 168 2 = some (2, 17) := by kernel_rfl
@[simp] theorem field168_3 : fieldP Tryz.prog 168 3 = some (3, 9) := by kernel_rfl
-- 169: struct 0:17 1:17 2:17 3:9
@[simp] theorem sz169 : szP Tryz.prog 169 = some 4 := by kernel_rfl
@[simp] theorem agg169 : aggP Tryz.prog 169 = some true := by kernel_rfl
@[simp] theorem str169 : strP Tryz.prog 169 = false := by kernel_rfl
@[simp] theorem conc169 : Tryz.prog.concrete 169 = true := by kernel_rfl
@[simp] theorem bytes169 : bytesP Tryz.prog 169 = some 40 := by kernel_rfl
@[simp] theorem zero169 : zeroP Tryz.prog 169 = some [(.pointer none), (.pointer none), (.pointer none), (.string ⟨#[]⟩)] := by kernel_rfl
@[simp] theorem field169_0 : fieldP Tryz.prog 169 0 = some (0, 17) := by kernel_rfl
@[simp] theorem field169_1 : fieldP Tryz.prog 169 1 = some (1, 17) := by kernel_rfl
@[simp] theorem field169_2 : fieldP Tryz.prog 169 2 = some (2, 17) := by kernel_rfl
@[simp] theorem field169_3 : fieldP Tryz.prog 169 3 = some (3, 9) := by kernel_rfl
-- 170: array 0 16
@[simp] theorem sz170 : szP Tryz.prog 170 = some 0 := by kernel_rfl
@[simp] theorem agg170 : aggP Tryz.prog 170 = some true := by kernel_rfl
@[simp] theorem arr170 : arrP Tryz.prog 170 = some (0, 16) := by kernel_rfl
@[simp] theorem str170 : strP Tryz.prog 170 = false := by kernel_rfl
@[simp] theorem conc170 : Tryz.prog.concrete 170 = true := by kernel_rfl
@[simp] theorem bytes170 : bytesP Tryz.prog 170 = some 0 := by kernel_rfl
@[simp] theorem zero170 : zeroP Tryz.prog 170 = some [] := by kernel_rfl
-- 171: struct 0:170
@[simp] theorem sz171 : szP Tryz.prog 171 = some 0 := by kernel_rfl
@[simp] theorem agg171 : aggP Tryz.prog 171 = some true := by kernel_rfl
@[simp] theorem str171 : strP Tryz.prog 171 = false := by kernel_rfl
@[simp] theorem conc171 : Tryz.prog.concrete 171 = true := by kernel_rfl
@[simp] theorem bytes171 : bytesP Tryz.prog 171 = some 0 := by kernel_rfl
@[simp] theorem zero171 : zeroP Tryz.prog 171 = some [] := by kernel_rfl
@[simp] theorem field171_0 : fieldP Tryz.prog 171 0 = some (0, 170) := by kernel_rfl
-- 172: struct 0:170
@[simp] theorem sz172 : szP Tryz.prog 172 = some 0 := by kernel_rfl
@[simp] theorem agg172 : aggP Tryz.prog 172 = some true := by kernel_rfl
@[simp] theorem str172 : strP Tryz.prog 172 = false := by kernel_rfl
@[simp] theorem conc172 : Tryz.prog.concrete 172 = true := by kernel_rfl
@[simp] theorem bytes172 : bytesP Tryz.prog 172 = some 0 := by kernel_rfl
@[simp] theorem zero172 : zeroP Tryz.prog 172 = some [] := by kernel_rfl
@[simp] theorem field172_0 : fieldP Tryz.prog 172 0 = some (0, 170) := by kernel_rfl
-- 173: int u8
@[simp] theorem sz173 : szP Tryz.prog 173 = some 1 := by kernel_rfl
@[simp] theorem agg173 : aggP Tryz.prog 173 = some false := by kernel_rfl
@[simp] theorem int173 : intP Tryz.prog 173 = some .u8 := by kernel_rfl
@[simp] theorem str173 : strP Tryz.prog 173 = false := by kernel_rfl
@[simp] theorem und173 : (Program.underlying Tryz.prog 173).isSome = true := by kernel_rfl
@[simp] theorem conc173 : Tryz.prog.concrete 173 = true := by kernel_rfl
@[simp] theorem bytes173 : bytesP Tryz.prog 173 = some 1 := by kernel_rfl
@[simp] theorem zero173 : zeroP Tryz.prog 173 = some [(.int .u8 0)] := by kernel_rfl
-- 174: int u8
@[simp] theorem sz174 : szP Tryz.prog 174 = some 1 := by kernel_rfl
@[simp] theorem agg174 : aggP Tryz.prog 174 = some false := by kernel_rfl
@[simp] theorem int174 : intP Tryz.prog 174 = some .u8 := by kernel_rfl
@[simp] theorem str174 : strP Tryz.prog 174 = false := by kernel_rfl
@[simp] theorem und174 : (Program.underlying Tryz.prog 174).isSome = true := by kernel_rfl
@[simp] theorem conc174 : Tryz.prog.concrete 174 = true := by kernel_rfl
@[simp] theorem bytes174 : bytesP Tryz.prog 174 = some 1 := by kernel_rfl
@[simp] theorem zero174 : zeroP Tryz.prog 174 = some [(.int .u8 0)] := by kernel_rfl
-- 175: func zero ?Go.Value.nilFunc
@[simp] theorem sz175 : szP Tryz.prog 175 = some 1 := by kernel_rfl
@[simp] theorem agg175 : aggP Tryz.prog 175 = some false := by kernel_rfl
@[simp] theorem str175 : strP Tryz.prog 175 = false := by kernel_rfl
@[simp] theorem conc175 : Tryz.prog.concrete 175 = true := by kernel_rfl
@[simp] theorem bytes175 : bytesP Tryz.prog 175 = some 8 := by kernel_rfl
-- 176: pointer
@[simp] theorem sz176 : szP Tryz.prog 176 = some 1 := by kernel_rfl
@[simp] theorem agg176 : aggP Tryz.prog 176 = some false := by kernel_rfl
@[simp] theorem str176 : strP Tryz.prog 176 = false := by kernel_rfl
@[simp] theorem conc176 : Tryz.prog.concrete 176 = true := by kernel_rfl
@[simp] theorem bytes176 : bytesP Tryz.prog 176 = some 8 := by kernel_rfl
@[simp] theorem zero176 : zeroP Tryz.prog 176 = some [(.pointer none)] := by kernel_rfl
-- 177: int i32
@[simp] theorem sz177 : szP Tryz.prog 177 = some 1 := by kernel_rfl
@[simp] theorem agg177 : aggP Tryz.prog 177 = some false := by kernel_rfl
@[simp] theorem int177 : intP Tryz.prog 177 = some .i32 := by kernel_rfl
@[simp] theorem str177 : strP Tryz.prog 177 = false := by kernel_rfl
@[simp] theorem und177 : (Program.underlying Tryz.prog 177).isSome = true := by kernel_rfl
@[simp] theorem conc177 : Tryz.prog.concrete 177 = true := by kernel_rfl
@[simp] theorem bytes177 : bytesP Tryz.prog 177 = some 4 := by kernel_rfl
@[simp] theorem zero177 : zeroP Tryz.prog 177 = some [(.int .i32 0)] := by kernel_rfl
-- 178: int i32
@[simp] theorem sz178 : szP Tryz.prog 178 = some 1 := by kernel_rfl
@[simp] theorem agg178 : aggP Tryz.prog 178 = some false := by kernel_rfl
@[simp] theorem int178 : intP Tryz.prog 178 = some .i32 := by kernel_rfl
@[simp] theorem str178 : strP Tryz.prog 178 = false := by kernel_rfl
@[simp] theorem und178 : (Program.underlying Tryz.prog 178).isSome = true := by kernel_rfl
@[simp] theorem conc178 : Tryz.prog.concrete 178 = true := by kernel_rfl
@[simp] theorem bytes178 : bytesP Tryz.prog 178 = some 4 := by kernel_rfl
@[simp] theorem zero178 : zeroP Tryz.prog 178 = some [(.int .i32 0)] := by kernel_rfl
-- 179: struct zero (.int .u64 0), (.int .u64 0), (.int .u32 0), (.int .u8 0), (.int .u8 0), (.int .u8 0), (.int .u8 0), ?Go.Value.nilFunc, (.pointer none), (.int .i32 0), (.int .i32 0) 0:12 1:12 2:154 3:173 4:5 5:5 6:174 7:175 8:176 9:177 10:178
@[simp] theorem sz179 : szP Tryz.prog 179 = some 11 := by kernel_rfl
@[simp] theorem agg179 : aggP Tryz.prog 179 = some true := by kernel_rfl
@[simp] theorem str179 : strP Tryz.prog 179 = false := by kernel_rfl
@[simp] theorem conc179 : Tryz.prog.concrete 179 = true := by kernel_rfl
@[simp] theorem bytes179 : bytesP Tryz.prog 179 = some 48 := by kernel_rfl
@[simp] theorem field179_0 : fieldP Tryz.prog 179 0 = some (0, 12) := by kernel_rfl
@[simp] theorem field179_1 : fieldP Tryz.prog 179 1 = some (1, 12) := by kernel_rfl
@[simp] theorem field179_2 : fieldP Tryz.prog 179 2 = some (2, 154) := by kernel_rfl
@[simp] theorem field179_3 : fieldP Tryz.prog 179 3 = some (3, 173) := by kernel_rfl
@[simp] theorem field179_4 : fieldP Tryz.prog 179 4 = some (4, 5) := by kernel_rfl
@[simp] theorem field179_5 : fieldP Tryz.prog 179 5 = some (5, 5) := by kernel_rfl
@[simp] theorem field179_6 : fieldP Tryz.prog 179 6 = some (6, 174) := by kernel_rfl
@[simp] theorem field179_7 : fieldP Tryz.prog 179 7 = some (7, 175) := by kernel_rfl
@[simp] theorem field179_8 : fieldP Tryz.prog 179 8 = some (8, 176) := by kernel_rfl
@[simp] theorem field179_9 : fieldP Tryz.prog 179 9 = some (9, 177) := by kernel_rfl
@[simp] theorem field179_10 : fieldP Tryz.prog 179 10 = some (10, 178) := by kernel_rfl
-- 180: struct zero (.int .u64 0), (.int .u64 0), (.int .u32 0), (.int .u8 0), (.int .u8 0), (.int .u8 0), (.int .u8 0), ?Go.Value.nilFunc, (.pointer none), (.int .i32 0), (.int .i32 0) 0:12 1:12 2:154 3:173 4:5 5:5 6:174 7:175 8:176 9:177 10:178
@[simp] theorem sz180 : szP Tryz.prog 180 = some 11 := by kernel_rfl
@[simp] theorem agg180 : aggP Tryz.prog 180 = some true := by kernel_rfl
@[simp] theorem str180 : strP Tryz.prog 180 = false := by kernel_rfl
@[simp] theorem conc180 : Tryz.prog.concrete 180 = true := by kernel_rfl
@[simp] theorem bytes180 : bytesP Tryz.prog 180 = some 48 := by kernel_rfl
@[simp] theorem field180_0 : fieldP Tryz.prog 180 0 = some (0, 12) := by kernel_rfl
@[simp] theorem field180_1 : fieldP Tryz.prog 180 1 = some (1, 12) := by kernel_rfl
@[simp] theorem field180_2 : fieldP Tryz.prog 180 2 = some (2, 154) := by kernel_rfl
@[simp] theorem field180_3 : fieldP Tryz.prog 180 3 = some (3, 173) := by kernel_rfl
@[simp] theorem field180_4 : fieldP Tryz.prog 180 4 = some (4, 5) := by kernel_rfl
@[simp] theorem field180_5 : fieldP Tryz.prog 180 5 = some (5, 5) := by kernel_rfl
@[simp] theorem field180_6 : fieldP Tryz.prog 180 6 = some (6, 174) := by kernel_rfl
@[simp] theorem field180_7 : fieldP Tryz.prog 180 7 = some (7, 175) := by kernel_rfl
@[simp] theorem field180_8 : fieldP Tryz.prog 180 8 = some (8, 176) := by kernel_rfl
@[simp] theorem field180_9 : fieldP Tryz.prog 180 9 = some (9, 177) := by kernel_rfl
@[simp] theorem field180_10 : fieldP Tryz.prog 180 10 = some (10, 178) := by kernel_rfl
-- 181: rawPointer
@[simp] theorem sz181 : szP Tryz.prog 181 = some 1 := by kernel_rfl
@[simp] theorem agg181 : aggP Tryz.prog 181 = some false := by kernel_rfl
@[simp] theorem str181 : strP Tryz.prog 181 = false := by kernel_rfl
@[simp] theorem conc181 : Tryz.prog.concrete 181 = true := by kernel_rfl
@[simp] theorem bytes181 : bytesP Tryz.prog 181 = some 8 := by kernel_rfl
@[simp] theorem zero181 : zeroP Tryz.prog 181 = some [(.pointer none)] := by kernel_rfl
theorem mixed : Tryz.prog.follows .mixedOrders = true := by kernel_rfl
end Go.Fw
