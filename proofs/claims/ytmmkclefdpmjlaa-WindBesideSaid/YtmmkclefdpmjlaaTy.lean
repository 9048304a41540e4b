/- The types of this program, as the walk asks for them. Printed by a program (wip/gen/Gen.lean). -/
import Derived.Test.YtmmkclefdpmjlaaFw3
import Derived.Test.YtmmkclefdpmjlaaRows
set_option linter.unusedSimpArgs false
set_option linter.unusedVariables false
namespace Go.Fw
open Go Go.Proofs
-- 0: tuple
@[simp] theorem sz0 : szP Try.prog 0 = some 1 := by kernel_rfl
@[simp] theorem agg0 : aggP Try.prog 0 = some false := by kernel_rfl
@[simp] theorem str0 : strP Try.prog 0 = false := by kernel_rfl
@[simp] theorem conc0 : Try.prog.concrete 0 = true := by kernel_rfl
@[simp] theorem bytes0 : bytesP Try.prog 0 = some 0 := by kernel_rfl
-- 1: func zero ?Go.Value.nilFunc
@[simp] theorem sz1 : szP Try.prog 1 = some 1 := by kernel_rfl
@[simp] theorem agg1 : aggP Try.prog 1 = some false := by kernel_rfl
@[simp] theorem str1 : strP Try.prog 1 = false := by kernel_rfl
@[simp] theorem conc1 : Try.prog.concrete 1 = true := by kernel_rfl
@[simp] theorem bytes1 : bytesP Try.prog 1 = some 8 := by kernel_rfl
-- 2: int i64
@[simp] theorem sz2 : szP Try.prog 2 = some 1 := by kernel_rfl
@[simp] theorem agg2 : aggP Try.prog 2 = some false := by kernel_rfl
@[simp] theorem int2 : intP Try.prog 2 = some .i64 := by kernel_rfl
@[simp] theorem str2 : strP Try.prog 2 = false := by kernel_rfl
@[simp] theorem und2 : (Program.underlying Try.prog 2).isSome = true := by kernel_rfl
@[simp] theorem conc2 : Try.prog.concrete 2 = true := by kernel_rfl
@[simp] theorem bytes2 : bytesP Try.prog 2 = some 8 := by kernel_rfl
@[simp] theorem zero2 : zeroP Try.prog 2 = some [(.int .i64 0)] := by kernel_rfl
-- 3: int i64
@[simp] theorem sz3 : szP Try.prog 3 = some 1 := by kernel_rfl
@[simp] theorem agg3 : aggP Try.prog 3 = some false := by kernel_rfl
@[simp] theorem int3 : intP Try.prog 3 = some .i64 := by kernel_rfl
@[simp] theorem str3 : strP Try.prog 3 = false := by kernel_rfl
@[simp] theorem und3 : (Program.underlying Try.prog 3).isSome = true := by kernel_rfl
@[simp] theorem conc3 : Try.prog.concrete 3 = true := by kernel_rfl
@[simp] theorem bytes3 : bytesP Try.prog 3 = some 8 := by kernel_rfl
@[simp] theorem zero3 : zeroP Try.prog 3 = some [(.int .i64 0)] := by kernel_rfl
-- 4: bool
@[simp] theorem sz4 : szP Try.prog 4 = some 1 := by kernel_rfl
@[simp] theorem agg4 : aggP Try.prog 4 = some false := by kernel_rfl
@[simp] theorem str4 : strP Try.prog 4 = false := by kernel_rfl
@[simp] theorem bool4 : boolP Try.prog 4 = true := by kernel_rfl
@[simp] theorem conc4 : Try.prog.concrete 4 = true := by kernel_rfl
@[simp] theorem bytes4 : bytesP Try.prog 4 = some 1 := by kernel_rfl
@[simp] theorem zero4 : zeroP Try.prog 4 = some [(.bool false)] := by kernel_rfl
-- 5: int u8
@[simp] theorem sz5 : szP Try.prog 5 = some 1 := by kernel_rfl
@[simp] theorem agg5 : aggP Try.prog 5 = some false := by kernel_rfl
@[simp] theorem int5 : intP Try.prog 5 = some .u8 := by kernel_rfl
@[simp] theorem str5 : strP Try.prog 5 = false := by kernel_rfl
@[simp] theorem und5 : (Program.underlying Try.prog 5).isSome = true := by kernel_rfl
@[simp] theorem conc5 : Try.prog.concrete 5 = true := by kernel_rfl
@[simp] theorem bytes5 : bytesP Try.prog 5 = some 1 := by kernel_rfl
@[simp] theorem zero5 : zeroP Try.prog 5 = some [(.int .u8 0)] := by kernel_rfl
-- 6: int u8
@[simp] theorem sz6 : szP Try.prog 6 = some 1 := by kernel_rfl
@[simp] theorem agg6 : aggP Try.prog 6 = some false := by kernel_rfl
@[simp] theorem int6 : intP Try.prog 6 = some .u8 := by kernel_rfl
@[simp] theorem str6 : strP Try.prog 6 = false := by kernel_rfl
@[simp] theorem und6 : (Program.underlying Try.prog 6).isSome = true := by kernel_rfl
@[simp] theorem conc6 : Try.prog.concrete 6 = true := by kernel_rfl
@[simp] theorem bytes6 : bytesP Try.prog 6 = some 1 := by kernel_rfl
@[simp] theorem zero6 : zeroP Try.prog 6 = some [(.int .u8 0)] := by kernel_rfl
-- 7: struct 0:2 1:3 2:4 3:6
@[simp] theorem sz7 : szP Try.prog 7 = some 4 := by kernel_rfl
@[simp] theorem agg7 : aggP Try.prog 7 = some true := by kernel_rfl
@[simp] theorem str7 : strP Try.prog 7 = false := by kernel_rfl
@[simp] theorem conc7 : Try.prog.concrete 7 = true := by kernel_rfl
@[simp] theorem bytes7 : bytesP Try.prog 7 = some 24 := by kernel_rfl
@[simp] theorem zero7 : zeroP Try.prog 7 = some [(.int .i64 0), (.int .i64 0), (.bool false), (.int .u8 0)] := by kernel_rfl
@[simp] theorem field7_0 : fieldP Try.prog 7 0 = some (0, 2) := by kernel_rfl
@[simp] theorem field7_1 : fieldP Try.prog 7 1 = some (1, 3) := by kernel_rfl
@[simp] theorem field7_2 : fieldP Try.prog 7 2 = some (2, 4) := by kernel_rfl
@[simp] theorem field7_3 : fieldP Try.prog 7 3 = some (3, 6) := by kernel_rfl
-- 8: struct 0:2 1:3 2:4 3:6
@[simp] theorem sz8 : szP Try.prog 8 = some 4 := by kernel_rfl
@[simp] theorem agg8 : aggP Try.prog 8 = some true := by kernel_rfl
@[simp] theorem str8 : strP Try.prog 8 = false := by kernel_rfl
@[simp] theorem conc8 : Try.prog.concrete 8 = true := by kernel_rfl
@[simp] theorem bytes8 : bytesP Try.prog 8 = some 24 := by kernel_rfl
@[simp] theorem zero8 : zeroP Try.prog 8 = some [(.int .i64 0), (.int .i64 0), (.bool false), (.int .u8 0)] := by kernel_rfl
@[simp] theorem field8_0 : fieldP Try.prog 8 0 = some (0, 2) := by kernel_rfl
@[simp] theorem field8_1 : fieldP Try.prog 8 1 = some (1, 3) := by kernel_rfl
@[simp] theorem field8_2 : fieldP Try.prog 8 2 = some (2, 4) := by kernel_rfl
@[simp] theorem field8_3 : fieldP Try.prog 8 3 = some (3, 6) := by kernel_rfl
-- 9: string
@[simp] theorem sz9 : szP Try.prog 9 = some 1 := by kernel_rfl
@[simp] theorem agg9 : aggP Try.prog 9 = some false := by kernel_rfl
@[simp] theorem elem9 : elemP Try.prog 9 = none := by kernel_rfl
@[simp] theorem str9 : strP Try.prog 9 = true := by kernel_rfl
@[simp] theorem und9 : (Program.underlying Try.prog 9).isSome = true := by kernel_rfl
@[simp] theorem conc9 : Try.prog.concrete 9 = true := by kernel_rfl
@[simp] theorem bytes9 : bytesP Try.prog 9 = some 16 := by kernel_rfl
@[simp] theorem zero9 : zeroP Try.prog 9 = some [(.string ⟨#[]⟩)] := by kernel_rfl
-- 10: string
@[simp] theorem sz10 : szP Try.prog 10 = some 1 := by kernel_rfl
@[simp] theorem agg10 : aggP Try.prog 10 = some false := by kernel_rfl
@[simp] theorem elem10 : elemP Try.prog 10 = none := by kernel_rfl
@[simp] theorem str10 : strP Try.prog 10 = true := by kernel_rfl
@[simp] theorem und10 : (Program.underlying Try.prog 10).isSome = true := by kernel_rfl
@[simp] theorem conc10 : Try.prog.concrete 10 = true := by kernel_rfl
@[simp] theorem bytes10 : bytesP Try.prog 10 = some 16 := by kernel_rfl
@[simp] theorem zero10 : zeroP Try.prog 10 = some [(.string ⟨#[]⟩)] := by kernel_rfl
-- 11: string
@[simp] theorem sz11 : szP Try.prog 11 = some 1 := by kernel_rfl
@[simp] theorem agg11 : aggP Try.prog 11 = some false := by kernel_rfl
@[simp] theorem elem11 : elemP Try.prog 11 = none := by kernel_rfl
@[simp] theorem str11 : strP Try.prog 11 = true := by kernel_rfl
@[simp] theorem und11 : (Program.underlying Try.prog 11).isSome = true := by kernel_rfl
@[simp] theorem conc11 : Try.prog.concrete 11 = true := by kernel_rfl
@[simp] theorem bytes11 : bytesP Try.prog 11 = some 16 := by kernel_rfl
@[simp] theorem zero11 : zeroP Try.prog 11 = some [(.string ⟨#[]⟩)] := by kernel_rfl
-- 12: int u64
@[simp] theorem sz12 : szP Try.prog 12 = some 1 := by kernel_rfl
@[simp] theorem agg12 : aggP Try.prog 12 = some false := by kernel_rfl
@[simp] theorem int12 : intP Try.prog 12 = some .u64 := by kernel_rfl
@[simp] theorem str12 : strP Try.prog 12 = false := by kernel_rfl
@[simp] theorem und12 : (Program.underlying Try.prog 12).isSome = true := by kernel_rfl
@[simp] theorem conc12 : Try.prog.concrete 12 = true := by kernel_rfl
@[simp] theorem bytes12 : bytesP Try.prog 12 = some 8 := by kernel_rfl
@[simp] theorem zero12 : zeroP Try.prog 12 = some [(.int .u64 0)] := by kernel_rfl
-- 13: struct 0:9 1:12
@[simp] theorem sz13 : szP Try.prog 13 = some 2 := by kernel_rfl
@[simp] theorem agg13 : aggP Try.prog 13 = some true := by kernel_rfl
@[simp] theorem str13 : strP Try.prog 13 = false := by kernel_rfl
@[simp] theorem conc13 : Try.prog.concrete 13 = true := by kernel_rfl
@[simp] theorem bytes13 : bytesP Try.prog 13 = some 24 := by kernel_rfl
@[simp] theorem zero13 : zeroP Try.prog 13 = some [(.string ⟨#[]⟩), (.int .u64 0)] := by kernel_rfl
@[simp] theorem field13_0 : fieldP Try.prog 13 0 = some (0, 9) := by kernel_rfl
@[simp] theorem field13_1 : fieldP Try.prog 13 1 = some (1, 12) := by kernel_rfl
-- 14: struct 0:9 1:12
@[simp] theorem sz14 : szP Try.prog 14 = some 2 := by kernel_rfl
@[simp] theorem agg14 : aggP Try.prog 14 = some true := by kernel_rfl
@[simp] theorem str14 : strP Try.prog 14 = false := by kernel_rfl
@[simp] theorem conc14 : Try.prog.concrete 14 = true := by kernel_rfl
@[simp] theorem bytes14 : bytesP Try.prog 14 = some 24 := by kernel_rfl
@[simp] theorem zero14 : zeroP Try.prog 14 = some [(.string ⟨#[]⟩), (.int .u64 0)] := by kernel_rfl
@[simp] theorem field14_0 : fieldP Try.prog 14 0 = some (0, 9) := by kernel_rfl
@[simp] theorem field14_1 : fieldP Try.prog 14 1 = some (1, 12) := by kernel_rfl
-- 15: pointer
@[simp] theorem sz15 : szP Try.prog 15 = some 1 := by kernel_rfl
@[simp] theorem agg15 : aggP Try.prog 15 = some false := by kernel_rfl
@[simp] theorem str15 : strP Try.prog 15 = false := by kernel_rfl
@[simp] theorem conc15 : Try.prog.concrete 15 = true := by kernel_rfl
@[simp] theorem bytes15 : bytesP Try.prog 15 = some 8 := by kernel_rfl
@[simp] theorem zero15 : zeroP Try.prog 15 = some [(.pointer none)] := by kernel_rfl
-- 16: pointer
@[simp] theorem sz16 : szP Try.prog 16 = some 1 := by kernel_rfl
@[simp] theorem agg16 : aggP Try.prog 16 = some false := by kernel_rfl
@[simp] theorem str16 : strP Try.prog 16 = false := by kernel_rfl
@[simp] theorem conc16 : Try.prog.concrete 16 = true := by kernel_rfl
@[simp] theorem bytes16 : bytesP Try.prog 16 = some 8 := by kernel_rfl
@[simp] theorem zero16 : zeroP Try.prog 16 = some [(.pointer none)] := by kernel_rfl
-- 17: pointer
@[simp] theorem sz17 : szP Try.prog 17 = some 1 := by kernel_rfl
@[simp] theorem agg17 : aggP Try.prog 17 = some false := by kernel_rfl
@[simp] theorem str17 : strP Try.prog 17 = false := by kernel_rfl
@[simp] theorem conc17 : Try.prog.concrete 17 = true := by kernel_rfl
@[simp] theorem bytes17 : bytesP Try.prog 17 = some 8 := by kernel_rfl
@[simp] theorem zero17 : zeroP Try.prog 17 = some [(.pointer none)] := by kernel_rfl
-- 18: struct 0:17
@[simp] theorem sz18 : szP Try.prog 18 = some 1 := by kernel_rfl
@[simp] theorem agg18 : aggP Try.prog 18 = some true := by kernel_rfl
@[simp] theorem str18 : strP Try.prog 18 = false := by kernel_rfl
@[simp] theorem conc18 : Try.prog.concrete 18 = true := by kernel_rfl
@[simp] theorem bytes18 : bytesP Try.prog 18 = some 8 := by kernel_rfl
@[simp] theorem zero18 : zeroP Try.prog 18 = some [(.pointer none)] := by kernel_rfl
@[simp] theorem field18_0 : fieldP Try.prog 18 0 = some (0, 17) := by kernel_rfl
-- 19: struct 0:17
@[simp] theorem sz19 : szP Try.prog 19 = some 1 := by kernel_rfl
@[simp] theorem agg19 : aggP Try.prog 19 = some true := by kernel_rfl
@[simp] theorem str19 : strP Try.prog 19 = false := by kernel_rfl
@[simp] theorem conc19 : Try.prog.concrete 19 = true := by kernel_rfl
@[simp] theorem bytes19 : bytesP Try.prog 19 = some 8 := by kernel_rfl
@[simp] theorem zero19 : zeroP Try.prog 19 = some [(.pointer none)] := by kernel_rfl
@[simp] theorem field19_0 : fieldP Try.prog 19 0 = some (0, 17) := by kernel_rfl
-- 20: interface
@[simp] theorem sz20 : szP Try.prog 20 = some 1 := by kernel_rfl
@[simp] theorem agg20 : aggP Try.prog 20 = some false := by kernel_rfl
@[simp] theorem str20 : strP Try.prog 20 = false := by kernel_rfl
@[simp] theorem bytes20 : bytesP Try.prog 20 = some 16 := by kernel_rfl
@[simp] theorem zero20 : zeroP Try.prog 20 = some [.nilIface] := by kernel_rfl
-- 21: int i32
@[simp] theorem sz21 : szP Try.prog 21 = some 1 := by kernel_rfl
@[simp] theorem agg21 : aggP Try.prog 21 = some false := by kernel_rfl
@[simp] theorem int21 : intP Try.prog 21 = some .i32 := by kernel_rfl
@[simp] theorem str21 : strP Try.prog 21 = false := by kernel_rfl
@[simp] theorem und21 : (Program.underlying Try.prog 21).isSome = true := by kernel_rfl
@[simp] theorem conc21 : Try.prog.concrete 21 = true := by kernel_rfl
@[simp] theorem bytes21 : bytesP Try.prog 21 = some 4 := by kernel_rfl
@[simp] theorem zero21 : zeroP Try.prog 21 = some [(.int .i32 0)] := by kernel_rfl
-- 22: slice 36
@[simp] theorem sz22 : szP Try.prog 22 = some 1 := by kernel_rfl
@[simp] theorem agg22 : aggP Try.prog 22 = some false := by kernel_rfl
@[simp] theorem elem22 : elemP Try.prog 22 = some 36 := by kernel_rfl
@[simp] theorem str22 : strP Try.prog 22 = false := by kernel_rfl
@[simp] theorem und22 : (Program.underlying Try.prog 22).isSome = true := by kernel_rfl
@[simp] theorem conc22 : Try.prog.concrete 22 = true := by kernel_rfl
@[simp] theorem bytes22 : bytesP Try.prog 22 = some 24 := by kernel_rfl
@[simp] theorem zero22 : zeroP Try.prog 22 = some [(.slice none 0 0)] := by kernel_rfl
-- 23: slice 33
@[simp] theorem sz23 : szP Try.prog 23 = some 1 := by kernel_rfl
@[simp] theorem agg23 : aggP Try.prog 23 = some false := by kernel_rfl
@[simp] theorem elem23 : elemP Try.prog 23 = some 33 := by kernel_rfl
@[simp] theorem str23 : strP Try.prog 23 = false := by kernel_rfl
@[simp] theorem und23 : (Program.underlying Try.prog 23).isSome = true := by kernel_rfl
@[simp] theorem conc23 : Try.prog.concrete 23 = true := by kernel_rfl
@[simp] theorem bytes23 : bytesP Try.prog 23 = some 24 := by kernel_rfl
@[simp] theorem zero23 : zeroP Try.prog 23 = some [(.slice none 0 0)] := by kernel_rfl
-- 24: slice 43
@[simp] theorem sz24 : szP Try.prog 24 = some 1 := by kernel_rfl
@[simp] theorem agg24 : aggP Try.prog 24 = some false := by kernel_rfl
@[simp] theorem elem24 : elemP Try.prog 24 = some 43 := by kernel_rfl
@[simp] theorem str24 : strP Try.prog 24 = false := by kernel_rfl
@[simp] theorem und24 : (Program.underlying Try.prog 24).isSome = true := by kernel_rfl
@[simp] theorem conc24 : Try.prog.concrete 24 = true := by kernel_rfl
@[simp] theorem bytes24 : bytesP Try.prog 24 = some 24 := by kernel_rfl
@[simp] theorem zero24 : zeroP Try.prog 24 = some [(.slice none 0 0)] := by kernel_rfl
-- 25: slice 148
@[simp] theorem sz25 : szP Try.prog 25 = some 1 := by kernel_rfl
@[simp] theorem agg25 : aggP Try.prog 25 = some false := by kernel_rfl
@[simp] theorem elem25 : elemP Try.prog 25 = some 148 := by kernel_rfl
@[simp] theorem str25 : strP Try.prog 25 = false := by kernel_rfl
@[simp] theorem und25 : (Program.underlying Try.prog 25).isSome = true := by kernel_rfl
@[simp] theorem conc25 : Try.prog.concrete 25 = true := by kernel_rfl
@[simp] theorem bytes25 : bytesP Try.prog 25 = some 24 := by kernel_rfl
@[simp] theorem zero25 : zeroP Try.prog 25 = some [(.slice none 0 0)] := by kernel_rfl
-- 26: struct 0:25
@[simp] theorem sz26 : szP Try.prog 26 = some 1 := by kernel_rfl
@[simp] theorem agg26 : aggP Try.prog 26 = some true := by kernel_rfl
@[simp] theorem str26 : strP Try.prog 26 = false := by kernel_rfl
@[simp] theorem conc26 : Try.prog.concrete 26 = true := by kernel_rfl
@[simp] theorem bytes26 : bytesP Try.prog 26 = some 24 := by kernel_rfl
@[simp] theorem zero26 : zeroP Try.prog 26 = some [(.slice none 0 0)] := by kernel_rfl
@[simp] theorem field26_0 : fieldP Try.prog 26 0 = some (0, 25) := by kernel_rfl
-- 27: struct 0:25
@[simp] theorem sz27 : szP Try.prog 27 = some 1 := by kernel_rfl
@[simp] theorem agg27 : aggP Try.prog 27 = some true := by kernel_rfl
@[simp] theorem str27 : strP Try.prog 27 = false := by kernel_rfl
@[simp] theorem conc27 : Try.prog.concrete 27 = true := by kernel_rfl
@[simp] theorem bytes27 : bytesP Try.prog 27 = some 24 := by kernel_rfl
@[simp] theorem zero27 : zeroP Try.prog 27 = some [(.slice none 0 0)] := by kernel_rfl
@[simp] theorem field27_0 : fieldP Try.prog 27 0 = some (0, 25) := by kernel_rfl
-- 28: struct 0:27 1:4
@[simp] theorem sz28 : szP Try.prog 28 = some 2 := by kernel_rfl
@[simp] theorem agg28 : aggP Try.prog 28 = some true := by kernel_rfl
@[simp] theorem str28 : strP Try.prog 28 = false := by kernel_rfl
@[simp] theorem conc28 : Try.prog.concrete 28 = true := by kernel_rfl
@[simp] theorem bytes28 : bytesP Try.prog 28 = some 32 := by kernel_rfl
@[simp] theorem zero28 : zeroP Try.prog 28 = some [(.slice none 0 0), (.bool false)] := by kernel_rfl
@[simp] theorem field28_0 : fieldP Try.prog 28 0 = some (0, 27) := by kernel_rfl
@[simp] theorem field28_1 : fieldP Try.prog 28 1 = some (1, 4) := by kernel_rfl
-- 29: struct 0:27 1:4
@[simp] theorem sz29 : szP Try.prog 29 = some 2 := by kernel_rfl
@[simp] theorem agg29 : aggP Try.prog 29 = some true := by kernel_rfl
@[simp] theorem str29 : strP Try.prog 29 = false := by kernel_rfl
@[simp] theorem conc29 : Try.prog.concrete 29 = true := by kernel_rfl
@[simp] theorem bytes29 : bytesP Try.prog 29 = some 32 := by kernel_rfl
@[simp] theorem zero29 : zeroP Try.prog 29 = some [(.slice none 0 0), (.bool false)] := by kernel_rfl
@[simp] theorem field29_0 : fieldP Try.prog 29 0 = some (0, 27) := by kernel_rfl
@[simp] theorem field29_1 : fieldP Try.prog 29 1 = some (1, 4) := by kernel_rfl
-- 30: struct 0:29 2:29
@[simp] theorem sz30 : szP Try.prog 30 = some 4 := by kernel_rfl
@[simp] theorem agg30 : aggP Try.prog 30 = some true := by kernel_rfl
@[simp] theorem str30 : strP Try.prog 30 = false := by kernel_rfl
@[simp] theorem conc30 : Try.prog.concrete 30 = true := by kernel_rfl
@[simp] theorem bytes30 : bytesP Try.prog 30 = some 64 := by kernel_rfl
@[simp] theorem zero30 : zeroP Try.prog 30 = some [(.slice none 0 0), (.bool false), (.slice none 0 0), (.bool false)] := by kernel_rfl
@[simp] theorem field30_0 : fieldP Try.prog 30 0 = some (0, 29) := by kernel_rfl
@[simp] theorem field30_1 : fieldP Try.prog 30 1 = some (2, 29) := by kernel_rfl
-- 31: struct 0:29 2:29
@[simp] theorem sz31 : szP Try.prog 31 = some 4 := by kernel_rfl
@[simp] theorem agg31 : aggP Try.prog 31 = some true := by kernel_rfl
@[simp] theorem str31 : strP Try.prog 31 = false := by kernel_rfl
@[simp] theorem conc31 : Try.prog.concrete 31 = true := by kernel_rfl
@[simp] theorem bytes31 : bytesP Try.prog 31 = some 64 := by kernel_rfl
@[simp] theorem zero31 : zeroP Try.prog 31 = some [(.slice none 0 0), (.bool false), (.slice none 0 0), (.bool false)] := by kernel_rfl
@[simp] theorem field31_0 : fieldP Try.prog 31 0 = some (0, 29) := by kernel_rfl
@[simp] theorem field31_1 : fieldP Try.prog 31 1 = some (2, 29) := by kernel_rfl
-- 32: struct 0:31 4:31
@[simp] theorem sz32 : szP Try.prog 32 = some 8 := by kernel_rfl
@[simp] theorem agg32 : aggP Try.prog 32 = some true := by kernel_rfl
@[simp] theorem str32 : strP Try.prog 32 = false := by kernel_rfl
@[simp] theorem conc32 : Try.prog.concrete 32 = true := by kernel_rfl
@[simp] theorem bytes32 : bytesP Try.prog 32 = some 128 := by kernel_rfl
@[simp] theorem zero32 : zeroP Try.prog 32 = some [(.slice none 0 0), (.bool false), (.slice none 0 0), (.bool false), (.slice none 0 0), (.bool false), (.slice none 0 0), (.bool false)] := by kernel_rfl
@[simp] theorem field32_0 : fieldP Try.prog 32 0 = some (0, 31) := by kernel_rfl
@[simp] theorem field32_1 : fieldP Try.prog 32 1 = some (4, 31) := by kernel_rfl
-- 33: struct 0:31 4:31
@[simp] theorem sz33 : szP Try.prog 33 = some 8 := by kernel_rfl
@[simp] theorem agg33 : aggP Try.prog 33 = some true := by kernel_rfl
@[simp] theorem str33 : strP Try.prog 33 = false := by kernel_rfl
@[simp] theorem conc33 : Try.prog.concrete 33 = true := by kernel_rfl
@[simp] theorem bytes33 : bytesP Try.prog 33 = some 128 := by kernel_rfl
@[simp] theorem zero33 : zeroP Try.prog 33 = some [(.slice none 0 0), (.bool false), (.slice none 0 0), (.bool false), (.slice none 0 0), (.bool false), (.slice none 0 0), (.bool false)] := by kernel_rfl
@[simp] theorem field33_0 : fieldP Try.prog 33 0 = some (0, 31) := by kernel_rfl
@[simp] theorem field33_1 : fieldP Try.prog 33 1 = some (4, 31) := by kernel_rfl
-- 34: func zero ?Go.Value.nilFunc
@[simp] theorem sz34 : szP Try.prog 34 = some 1 := by kernel_rfl
@[simp] theorem agg34 : aggP Try.prog 34 = some false := by kernel_rfl
@[simp] theorem str34 : strP Try.prog 34 = false := by kernel_rfl
@[simp] theorem conc34 : Try.prog.concrete 34 = true := by kernel_rfl
@[simp] theorem bytes34 : bytesP Try.prog 34 = some 8 := by kernel_rfl
-- 35: struct 0:3 1:3 2:3
@[simp] theorem sz35 : szP Try.prog 35 = some 3 := by kernel_rfl
@[simp] theorem agg35 : aggP Try.prog 35 = some true := by kernel_rfl
@[simp] theorem str35 : strP Try.prog 35 = false := by kernel_rfl
@[simp] theorem conc35 : Try.prog.concrete 35 = true := by kernel_rfl
@[simp] theorem bytes35 : bytesP Try.prog 35 = some 24 := by kernel_rfl
@[simp] theorem zero35 : zeroP Try.prog 35 = some [(.int .i64 0), (.int .i64 0), (.int .i64 0)] := by kernel_rfl
@[simp] theorem field35_0 : fieldP Try.prog 35 0 = some (0, 3) := by kernel_rfl
@[simp] theorem field35_1 : fieldP Try.prog 35 1 = some (1, 3) := by kernel_rfl
@[simp] theorem field35_2 : fieldP Try.prog 35 2 = some (2, 3) := by kernel_rfl
-- 36: struct 0:3 1:3 2:3
@[simp] theorem sz36 : szP Try.prog 36 = some 3 := by kernel_rfl
@[simp] theorem agg36 : aggP Try.prog 36 = some true := by kernel_rfl
@[simp] theorem str36 : strP Try.prog 36 = false := by kernel_rfl
@[simp] theorem conc36 : Try.prog.concrete 36 = true := by kernel_rfl
@[simp] theorem bytes36 : bytesP Try.prog 36 = some 24 := by kernel_rfl
@[simp] theorem zero36 : zeroP Try.prog 36 = some [(.int .i64 0), (.int .i64 0), (.int .i64 0)] := by kernel_rfl
@[simp] theorem field36_0 : fieldP Try.prog 36 0 = some (0, 3) := by kernel_rfl
@[simp] theorem field36_1 : fieldP Try.prog 36 1 = some (1, 3) := by kernel_rfl
@[simp] theorem field36_2 : fieldP Try.prog 36 2 = some (2, 3) := by kernel_rfl
-- 37: slice 3
@[simp] theorem sz37 : szP Try.prog 37 = some 1 := by kernel_rfl
@[simp] theorem agg37 : aggP Try.prog 37 = some false := by kernel_rfl
@[simp] theorem elem37 : elemP Try.prog 37 = some 3 := by kernel_rfl
@[simp] theorem str37 : strP Try.prog 37 = false := by kernel_rfl
@[simp] theorem und37 : (Program.underlying Try.prog 37).isSome = true := by kernel_rfl
@[simp] theorem conc37 : Try.prog.concrete 37 = true := by kernel_rfl
@[simp] theorem bytes37 : bytesP Try.prog 37 = some 24 := by kernel_rfl
@[simp] theorem zero37 : zeroP Try.prog 37 = some [(.slice none 0 0)] := by kernel_rfl
-- 38: struct 0:37
@[simp] theorem sz38 : szP Try.prog 38 = some 1 := by kernel_rfl
@[simp] theorem agg38 : aggP Try.prog 38 = some true := by kernel_rfl
@[simp] theorem str38 : strP Try.prog 38 = false := by kernel_rfl
@[simp] theorem conc38 : Try.prog.concrete 38 = true := by kernel_rfl
@[simp] theorem bytes38 : bytesP Try.prog 38 = some 24 := by kernel_rfl
@[simp] theorem zero38 : zeroP Try.prog 38 = some [(.slice none 0 0)] := by kernel_rfl
@[simp] theorem field38_0 : fieldP Try.prog 38 0 = some (0, 37) := by kernel_rfl
-- 39: struct 0:37
@[simp] theorem sz39 : szP Try.prog 39 = some 1 := by kernel_rfl
@[simp] theorem agg39 : aggP Try.prog 39 = some true := by kernel_rfl
@[simp] theorem str39 : strP Try.prog 39 = false := by kernel_rfl
@[simp] theorem conc39 : Try.prog.concrete 39 = true := by kernel_rfl
@[simp] theorem bytes39 : bytesP Try.prog 39 = some 24 := by kernel_rfl
@[simp] theorem zero39 : zeroP Try.prog 39 = some [(.slice none 0 0)] := by kernel_rfl
@[simp] theorem field39_0 : fieldP Try.prog 39 0 = some (0, 37) := by kernel_rfl
-- 40: struct 0:3 1:39
@[simp] theorem sz40 : szP Try.prog 40 = some 2 := by kernel_rfl
@[simp] theorem agg40 : aggP Try.prog 40 = some true := by kernel_rfl
@[simp] theorem str40 : strP Try.prog 40 = false := by kernel_rfl
@[simp] theorem conc40 : Try.prog.concrete 40 = true := by kernel_rfl
@[simp] theorem bytes40 : bytesP Try.prog 40 = some 32 := by kernel_rfl
@[simp] theorem zero40 : zeroP Try.prog 40 = some [(.int .i64 0), (.slice none 0 0)] := by kernel_rfl
@[simp] theorem field40_0 : fieldP Try.prog 40 0 = some (0, 3) := by kernel_rfl
@[simp] theorem field40_1 : fieldP Try.prog 40 1 = some (1, 39) := by kernel_rfl
-- 41: struct 0:3 1:39
@[simp] theorem sz41 : szP Try.prog 41 = some 2 := by kernel_rfl
@[simp] theorem agg41 : aggP Try.prog 41 = some true := by kernel_rfl
@[simp] theorem str41 : strP Try.prog 41 = false := by kernel_rfl
@[simp] theorem conc41 : Try.prog.concrete 41 = true := by kernel_rfl
@[simp] theorem bytes41 : bytesP Try.prog 41 = some 32 := by kernel_rfl
@[simp] theorem zero41 : zeroP Try.prog 41 = some [(.int .i64 0), (.slice none 0 0)] := by kernel_rfl
@[simp] theorem field41_0 : fieldP Try.prog 41 0 = some (0, 3) := by kernel_rfl
@[simp] theorem field41_1 : fieldP Try.prog 41 1 = some (1, 39) := by kernel_rfl
-- 42: struct 0:41 2:41 4:41
@[simp] theorem sz42 : szP Try.prog 42 = some 6 := by kernel_rfl
@[simp] theorem agg42 : aggP Try.prog 42 = some true := by kernel_rfl
@[simp] theorem str42 : strP Try.prog 42 = false := by kernel_rfl
@[simp] theorem conc42 : Try.prog.concrete 42 = true := by kernel_rfl
@[simp] theorem bytes42 : bytesP Try.prog 42 = some 96 := by kernel_rfl
@[simp] theorem zero42 : zeroP Try.prog 42 = some [(.int .i64 0), (.slice none 0 0), (.int .i64 0), (.slice none 0 0), (.int .i64 0), (.slice none 0 0)] := by kernel_rfl
@[simp] theorem field42_0 : fieldP Try.prog 42 0 = some (0, 41) := by kernel_rfl
@[simp] theorem field42_1 : fieldP Try.prog 42 1 = some (2, 41) := by kernel_rfl
@[simp] theorem field42_2 : fieldP Try.prog 42 2 = some (4, 41) := by kernel_rfl
-- 43: struct 0:41 2:41 4:41
@[simp] theorem sz43 : szP Try.prog 43 = some 6 := by kernel_rfl
@[simp] theorem agg43 : aggP Try.prog 43 = some true := by kernel_rfl
@[simp] theorem str43 : strP Try.prog 43 = false := by kernel_rfl
@[simp] theorem conc43 : Try.prog.concrete 43 = true := by kernel_rfl
@[simp] theorem bytes43 : bytesP Try.prog 43 = some 96 := by kernel_rfl
@[simp] theorem zero43 : zeroP Try.prog 43 = some [(.int .i64 0), (.slice none 0 0), (.int .i64 0), (.slice none 0 0), (.int .i64 0), (.slice none 0 0)] := by kernel_rfl
@[simp] theorem field43_0 : fieldP Try.prog 43 0 = some (0, 41) := by kernel_rfl
@[simp] theorem field43_1 : fieldP Try.prog 43 1 = some (2, 41) := by kernel_rfl
@[simp] theorem field43_2 : fieldP Try.prog 43 2 = some (4, 41) := by kernel_rfl
-- 44: func zero ?Go.Value.nilFunc
@[simp] theorem sz44 : szP Try.prog 44 = some 1 := by kernel_rfl
@[simp] theorem agg44 : aggP Try.prog 44 = some false := by kernel_rfl
@[simp] theorem str44 : strP Try.prog 44 = false := by kernel_rfl
@[simp] theorem conc44 : Try.prog.concrete 44 = true := by kernel_rfl
@[simp] theorem bytes44 : bytesP Try.prog 44 = some 8 := by kernel_rfl
-- 45: func zero ?Go.Value.nilFunc
@[simp] theorem sz45 : szP Try.prog 45 = some 1 := by kernel_rfl
@[simp] theorem agg45 : aggP Try.prog 45 = some false := by kernel_rfl
@[simp] theorem str45 : strP Try.prog 45 = false := by kernel_rfl
@[simp] theorem conc45 : Try.prog.concrete 45 = true := by kernel_rfl
@[simp] theorem bytes45 : bytesP Try.prog 45 = some 8 := by kernel_rfl
-- 46: func zero ?Go.Value.nilFunc
@[simp] theorem sz46 : szP Try.prog 46 = some 1 := by kernel_rfl
@[simp] theorem agg46 : aggP Try.prog 46 = some false := by kernel_rfl
@[simp] theorem str46 : strP Try.prog 46 = false := by kernel_rfl
@[simp] theorem conc46 : Try.prog.concrete 46 = true := by kernel_rfl
@[simp] theorem bytes46 : bytesP Try.prog 46 = some 8 := by kernel_rfl
-- 47: func zero ?Go.Value.nilFunc
@[simp] theorem sz47 : szP Try.prog 47 = some 1 := by kernel_rfl
@[simp] theorem agg47 : aggP Try.prog 47 = some false := by kernel_rfl
@[simp] theorem str47 : strP Try.prog 47 = false := by kernel_rfl
@[simp] theorem conc47 : Try.prog.concrete 47 = true := by kernel_rfl
@[simp] theorem bytes47 : bytesP Try.prog 47 = some 8 := by kernel_rfl
-- 48: func zero ?Go.Value.nilFunc
@[simp] theorem sz48 : szP Try.prog 48 = some 1 := by kernel_rfl
@[simp] theorem agg48 : aggP Try.prog 48 = some false := by kernel_rfl
@[simp] theorem str48 : strP Try.prog 48 = false := by kernel_rfl
@[simp] theorem conc48 : Try.prog.concrete 48 = true := by kernel_rfl
@[simp] theorem bytes48 : bytesP Try.prog 48 = some 8 := by kernel_rfl
-- 49: struct 0:41 2:41
@[simp] theorem sz49 : szP Try.prog 49 = some 4 := by kernel_rfl
@[simp] theorem agg49 : aggP Try.prog 49 = some true := by kernel_rfl
@[simp] theorem str49 : strP Try.prog 49 = false := by kernel_rfl
@[simp] theorem conc49 : Try.prog.concrete 49 = true := by kernel_rfl
@[simp] theorem bytes49 : bytesP Try.prog 49 = some 64 := by kernel_rfl
@[simp] theorem zero49 : zeroP Try.prog 49 = some [(.int .i64 0), (.slice none 0 0), (.int .i64 0), (.slice none 0 0)] := by kernel_rfl
@[simp] theorem field49_0 : fieldP Try.prog 49 0 = some (0, 41) := by kernel_rfl
@[simp] theorem field49_1 : fieldP Try.prog 49 1 = some (2, 41) := by kernel_rfl
-- 50: struct 0:41 2:41
@[simp] theorem sz50 : szP Try.prog 50 = some 4 := by kernel_rfl
@[simp] theorem agg50 : aggP Try.prog 50 = some true := by kernel_rfl
@[simp] theorem str50 : strP Try.prog 50 = false := by kernel_rfl
@[simp] theorem conc50 : Try.prog.concrete 50 = true := by kernel_rfl
@[simp] theorem bytes50 : bytesP Try.prog 50 = some 64 := by kernel_rfl
@[simp] theorem zero50 : zeroP Try.prog 50 = some [(.int .i64 0), (.slice none 0 0), (.int .i64 0), (.slice none 0 0)] := by kernel_rfl
@[simp] theorem field50_0 : fieldP Try.prog 50 0 = some (0, 41) := by kernel_rfl
@[simp] theorem field50_1 : fieldP Try.prog 50 1 = some (2, 41) := by kernel_rfl
-- 51: func zero ?Go.Value.nilFunc
@[simp] theorem sz51 : szP Try.prog 51 = some 1 := by kernel_rfl
@[simp] theorem agg51 : aggP Try.prog 51 = some false := by kernel_rfl
@[simp] theorem str51 : strP Try.prog 51 = false := by kernel_rfl
@[simp] theorem conc51 : Try.prog.concrete 51 = true := by kernel_rfl
@[simp] theorem bytes51 : bytesP Try.prog 51 = some 8 := by kernel_rfl
-- 52: func zero ?Go.Value.nilFunc
@[simp] theorem sz52 : szP Try.prog 52 = some 1 := by kernel_rfl
@[simp] theorem agg52 : aggP Try.prog 52 = some false := by kernel_rfl
@[simp] theorem str52 : strP Try.prog 52 = false := by kernel_rfl
@[simp] theorem conc52 : Try.prog.concrete 52 = true := by kernel_rfl
@[simp] theorem bytes52 : bytesP Try.prog 52 = some 8 := by kernel_rfl
-- 53: func zero ?Go.Value.nilFunc
@[simp] theorem sz53 : szP Try.prog 53 = some 1 := by kernel_rfl
@[simp] theorem agg53 : aggP Try.prog 53 = some false := by kernel_rfl
@[simp] theorem str53 : strP Try.prog 53 = false := by kernel_rfl
@[simp] theorem conc53 : Try.prog.concrete 53 = true := by kernel_rfl
@[simp] theorem bytes53 : bytesP Try.prog 53 = some 8 := by kernel_rfl
-- 54: func zero ?Go.Value.nilFunc
@[simp] theorem sz54 : szP Try.prog 54 = some 1 := by kernel_rfl
@[simp] theorem agg54 : aggP Try.prog 54 = some false := by kernel_rfl
@[simp] theorem str54 : strP Try.prog 54 = false := by kernel_rfl
@[simp] theorem conc54 : Try.prog.concrete 54 = true := by kernel_rfl
@[simp] theorem bytes54 : bytesP Try.prog 54 = some 8 := by kernel_rfl
-- 55: func zero ?Go.Value.nilFunc
@[simp] theorem sz55 : szP Try.prog 55 = some 1 := by kernel_rfl
@[simp] theorem agg55 : aggP Try.prog 55 = some false := by kernel_rfl
@[simp] theorem str55 : strP Try.prog 55 = false := by kernel_rfl
@[simp] theorem conc55 : Try.prog.concrete 55 = true := by kernel_rfl
@[simp] theorem bytes55 : bytesP Try.prog 55 = some 8 := by kernel_rfl
-- 56: func zero ?Go.Value.nilFunc
@[simp] theorem sz56 : szP Try.prog 56 = some 1 := by kernel_rfl
@[simp] theorem agg56 : aggP Try.prog 56 = some false := by kernel_rfl
@[simp] theorem str56 : strP Try.prog 56 = false := by kernel_rfl
@[simp] theorem conc56 : Try.prog.concrete 56 = true := by kernel_rfl
@[simp] theorem bytes56 : bytesP Try.prog 56 = some 8 := by kernel_rfl
-- 57: func zero ?Go.Value.nilFunc
@[simp] theorem sz57 : szP Try.prog 57 = some 1 := by kernel_rfl
@[simp] theorem agg57 : aggP Try.prog 57 = some false := by kernel_rfl
@[simp] theorem str57 : strP Try.prog 57 = false := by kernel_rfl
@[simp] theorem conc57 : Try.prog.concrete 57 = true := by kernel_rfl
@[simp] theorem bytes57 : bytesP Try.prog 57 = some 8 := by kernel_rfl
-- 58: slice 65
@[simp] theorem sz58 : szP Try.prog 58 = some 1 := by kernel_rfl
@[simp] theorem agg58 : aggP Try.prog 58 = some false := by kernel_rfl
@[simp] theorem elem58 : elemP Try.prog 58 = some 65 := by kernel_rfl
@[simp] theorem str58 : strP Try.prog 58 = false := by kernel_rfl
@[simp] theorem und58 : (Program.underlying Try.prog 58).isSome = true := by kernel_rfl
@[simp] theorem conc58 : Try.prog.concrete 58 = true := by kernel_rfl
@[simp] theorem bytes58 : bytesP Try.prog 58 = some 24 := by kernel_rfl
@[simp] theorem zero58 : zeroP Try.prog 58 = some [(.slice none 0 0)] := by kernel_rfl
-- 59: tuple
@[simp] theorem sz59 : szP Try.prog 59 = some 1 := by kernel_rfl
@[simp] theorem agg59 : aggP Try.prog 59 = some false := by kernel_rfl
@[simp] theorem str59 : strP Try.prog 59 = false := by kernel_rfl
@[simp] theorem conc59 : Try.prog.concrete 59 = true := by kernel_rfl
@[simp] theorem bytes59 : bytesP Try.prog 59 = some 0 := by kernel_rfl
-- 60: func zero ?Go.Value.nilFunc
@[simp] theorem sz60 : szP Try.prog 60 = some 1 := by kernel_rfl
@[simp] theorem agg60 : aggP Try.prog 60 = some false := by kernel_rfl
@[simp] theorem str60 : strP Try.prog 60 = false := by kernel_rfl
@[simp] theorem conc60 : Try.prog.concrete 60 = true := by kernel_rfl
@[simp] theorem bytes60 : bytesP Try.prog 60 = some 8 := by kernel_rfl
-- 61: tuple
@[simp] theorem sz61 : szP Try.prog 61 = some 1 := by kernel_rfl
@[simp] theorem agg61 : aggP Try.prog 61 = some false := by kernel_rfl
@[simp] theorem str61 : strP Try.prog 61 = false := by kernel_rfl
@[simp] theorem conc61 : Try.prog.concrete 61 = true := by kernel_rfl
@[simp] theorem bytes61 : bytesP Try.prog 61 = some 0 := by kernel_rfl
-- 62: func zero ?Go.Value.nilFunc
@[simp] theorem sz62 : szP Try.prog 62 = some 1 := by kernel_rfl
@[simp] theorem agg62 : aggP Try.prog 62 = some false := by kernel_rfl
@[simp] theorem str62 : strP Try.prog 62 = false := by kernel_rfl
@[simp] theorem conc62 : Try.prog.concrete 62 = true := by kernel_rfl
@[simp] theorem bytes62 : bytesP Try.prog 62 = some 8 := by kernel_rfl
-- 63: func zero ?Go.Value.nilFunc
@[simp] theorem sz63 : szP Try.prog 63 = some 1 := by kernel_rfl
@[simp] theorem agg63 : aggP Try.prog 63 = some false := by kernel_rfl
@[simp] theorem str63 : strP Try.prog 63 = false := by kernel_rfl
@[simp] theorem conc63 : Try.prog.concrete 63 = true := by kernel_rfl
@[simp] theorem bytes63 : bytesP Try.prog 63 = some 8 := by kernel_rfl
-- 64: struct 0:3 1:3
@[simp] theorem sz64 : szP Try.prog 64 = some 2 := by kernel_rfl
@[simp] theorem agg64 : aggP Try.prog 64 = some true := by kernel_rfl
@[simp] theorem str64 : strP Try.prog 64 = false := by kernel_rfl
@[simp] theorem conc64 : Try.prog.concrete 64 = true := by kernel_rfl
@[simp] theorem bytes64 : bytesP Try.prog 64 = some 16 := by kernel_rfl
@[simp] theorem zero64 : zeroP Try.prog 64 = some [(.int .i64 0), (.int .i64 0)] := by kernel_rfl
@[simp] theorem field64_0 : fieldP Try.prog 64 0 = some (0, 3) := by kernel_rfl
@[simp] theorem field64_1 : fieldP Try.prog 64 1 = some (1, 3) := by kernel_rfl
-- 65: struct 0:3 1:3
@[simp] theorem sz65 : szP Try.prog 65 = some 2 := by kernel_rfl
@[simp] theorem agg65 : aggP Try.prog 65 = some true := by kernel_rfl
@[simp] theorem str65 : strP Try.prog 65 = false := by kernel_rfl
@[simp] theorem conc65 : Try.prog.concrete 65 = true := by kernel_rfl
@[simp] theorem bytes65 : bytesP Try.prog 65 = some 16 := by kernel_rfl
@[simp] theorem zero65 : zeroP Try.prog 65 = some [(.int .i64 0), (.int .i64 0)] := by kernel_rfl
@[simp] theorem field65_0 : fieldP Try.prog 65 0 = some (0, 3) := by kernel_rfl
@[simp] theorem field65_1 : fieldP Try.prog 65 1 = some (1, 3) := by kernel_rfl
-- 66: func zero ?Go.Value.nilFunc
@[simp] theorem sz66 : szP Try.prog 66 = some 1 := by kernel_rfl
@[simp] theorem agg66 : aggP Try.prog 66 = some false := by kernel_rfl
@[simp] theorem str66 : strP Try.prog 66 = false := by kernel_rfl
@[simp] theorem conc66 : Try.prog.concrete 66 = true := by kernel_rfl
@[simp] theorem bytes66 : bytesP Try.prog 66 = some 8 := by kernel_rfl
-- 67: struct 0:43 6:43
@[simp] theorem sz67 : szP Try.prog 67 = some 12 := by kernel_rfl
@[simp] theorem agg67 : aggP Try.prog 67 = some true := by kernel_rfl
@[simp] theorem str67 : strP Try.prog 67 = false := by kernel_rfl
@[simp] theorem conc67 : Try.prog.concrete 67 = true := by kernel_rfl
@[simp] theorem bytes67 : bytesP Try.prog 67 = some 192 := by kernel_rfl
@[simp] theorem zero67 : zeroP Try.prog 67 = some [(.int .i64 0), (.slice none 0 0), (.int .i64 0), (.slice none 0 0), (.int .i64 0), (.slice none 0 0), (.int .i64 0), (.slice none 0 0), (.int .i64 0), (.slice none 0 0), (.int .i64 0), (.slice none 0 0)] := by kernel_rfl
@[simp] theorem field67_0 : fieldP Try.prog 67 0 = some (0, 43) := by kernel_rfl
@[simp] theorem field67_1 : fieldP Try.prog 67 1 = some (6, 43) := by kernel_rfl
-- 68: struct 0:43 6:43
@[simp] theorem sz68 : szP Try.prog 68 = some 12 := by kernel_rfl
@[simp] theorem agg68 : aggP Try.prog 68 = some true := by kernel_rfl
@[simp] theorem str68 : strP Try.prog 68 = false := by kernel_rfl
@[simp] theorem conc68 : Try.prog.concrete 68 = true := by kernel_rfl
@[simp] theorem bytes68 : bytesP Try.prog 68 = some 192 := by kernel_rfl
@[simp] theorem zero68 : zeroP Try.prog 68 = some [(.int .i64 0), (.slice none 0 0), (.int .i64 0), (.slice none 0 0), (.int .i64 0), (.slice none 0 0), (.int .i64 0), (.slice none 0 0), (.int .i64 0), (.slice none 0 0), (.int .i64 0), (.slice none 0 0)] := by kernel_rfl
@[simp] theorem field68_0 : fieldP Try.prog 68 0 = some (0, 43) := by kernel_rfl
@[simp] theorem field68_1 : fieldP Try.prog 68 1 = some (6, 43) := by kernel_rfl
-- 69: tuple
@[simp] theorem sz69 : szP Try.prog 69 = some 1 := by kernel_rfl
@[simp] theorem agg69 : aggP Try.prog 69 = some false := by kernel_rfl
@[simp] theorem str69 : strP Try.prog 69 = false := by kernel_rfl
@[simp] theorem conc69 : Try.prog.concrete 69 = true := by kernel_rfl
@[simp] theorem bytes69 : bytesP Try.prog 69 = some 0 := by kernel_rfl
-- 70: func zero ?Go.Value.nilFunc
@[simp] theorem sz70 : szP Try.prog 70 = some 1 := by kernel_rfl
@[simp] theorem agg70 : aggP Try.prog 70 = some false := by kernel_rfl
@[simp] theorem str70 : strP Try.prog 70 = false := by kernel_rfl
@[simp] theorem conc70 : Try.prog.concrete 70 = true := by kernel_rfl
@[simp] theorem bytes70 : bytesP Try.prog 70 = some 8 := by kernel_rfl
-- 71: func zero ?Go.Value.nilFunc
@[simp] theorem sz71 : szP Try.prog 71 = some 1 := by kernel_rfl
@[simp] theorem agg71 : aggP Try.prog 71 = some false := by kernel_rfl
@[simp] theorem str71 : strP Try.prog 71 = false := by kernel_rfl
@[simp] theorem conc71 : Try.prog.concrete 71 = true := by kernel_rfl
@[simp] theorem bytes71 : bytesP Try.prog 71 = some 8 := by kernel_rfl
-- 72: struct 0:33 8:33
@[simp] theorem sz72 : szP Try.prog 72 = some 16 := by kernel_rfl
@[simp] theorem agg72 : aggP Try.prog 72 = some true := by kernel_rfl
@[simp] theorem str72 : strP Try.prog 72 = false := by kernel_rfl
@[simp] theorem conc72 : Try.prog.concrete 72 = true := by kernel_rfl
@[simp] theorem bytes72 : bytesP Try.prog 72 = some 256 := by kernel_rfl
@[simp] theorem zero72 : zeroP Try.prog 72 = some [(.slice none 0 0), (.bool false), (.slice none 0 0), (.bool false), (.slice none 0 0), (.bool false), (.slice none 0 0), (.bool false), (.slice none 0 0), (.bool false), (.slice none 0 0), (.bool false), (.slice none 0 0), (.bool false), (.slice none 0 0), (.bool false)] := by kernel_rfl
@[simp] theorem field72_0 : fieldP Try.prog 72 0 = some (0, 33) := by kernel_rfl
@[simp] theorem field72_1 : fieldP Try.prog 72 1 = some (8, 33) := by kernel_rfl
-- 73: struct 0:33 8:33
@[simp] theorem sz73 : szP Try.prog 73 = some 16 := by kernel_rfl
@[simp] theorem agg73 : aggP Try.prog 73 = some true := by kernel_rfl
@[simp] theorem str73 : strP Try.prog 73 = false := by kernel_rfl
@[simp] theorem conc73 : Try.prog.concrete 73 = true := by kernel_rfl
@[simp] theorem bytes73 : bytesP Try.prog 73 = some 256 := by kernel_rfl
@[simp] theorem zero73 : zeroP Try.prog 73 = some [(.slice none 0 0), (.bool false), (.slice none 0 0), (.bool false), (.slice none 0 0), (.bool false), (.slice none 0 0), (.bool false), (.slice none 0 0), (.bool false), (.slice none 0 0), (.bool false), (.slice none 0 0), (.bool false), (.slice none 0 0), (.bool false)] := by kernel_rfl
@[simp] theorem field73_0 : fieldP Try.prog 73 0 = some (0, 33) := by kernel_rfl
@[simp] theorem field73_1 : fieldP Try.prog 73 1 = some (8, 33) := by kernel_rfl
-- 74: func zero ?Go.Value.nilFunc
@[simp] theorem sz74 : szP Try.prog 74 = some 1 := by kernel_rfl
@[simp] theorem agg74 : aggP Try.prog 74 = some false := by kernel_rfl
@[simp] theorem str74 : strP Try.prog 74 = false := by kernel_rfl
@[simp] theorem conc74 : Try.prog.concrete 74 = true := by kernel_rfl
@[simp] theorem bytes74 : bytesP Try.prog 74 = some 8 := by kernel_rfl
-- 75: func zero ?Go.Value.nilFunc
@[simp] theorem sz75 : szP Try.prog 75 = some 1 := by kernel_rfl
@[simp] theorem agg75 : aggP Try.prog 75 = some false := by kernel_rfl
@[simp] theorem str75 : strP Try.prog 75 = false := by kernel_rfl
@[simp] theorem conc75 : Try.prog.concrete 75 = true := by kernel_rfl
@[simp] theorem bytes75 : bytesP Try.prog 75 = some 8 := by kernel_rfl
-- 76: func zero ?Go.Value.nilFunc
@[simp] theorem sz76 : szP Try.prog 76 = some 1 := by kernel_rfl
@[simp] theorem agg76 : aggP Try.prog 76 = some false := by kernel_rfl
@[simp] theorem str76 : strP Try.prog 76 = false := by kernel_rfl
@[simp] theorem conc76 : Try.prog.concrete 76 = true := by kernel_rfl
@[simp] theorem bytes76 : bytesP Try.prog 76 = some 8 := by kernel_rfl
-- 77: func zero ?Go.Value.nilFunc
@[simp] theorem sz77 : szP Try.prog 77 = some 1 := by kernel_rfl
@[simp] theorem agg77 : aggP Try.prog 77 = some false := by kernel_rfl
@[simp] theorem str77 : strP Try.prog 77 = false := by kernel_rfl
@[simp] theorem conc77 : Try.prog.concrete 77 = true := by kernel_rfl
@[simp] theorem bytes77 : bytesP Try.prog 77 = some 8 := by kernel_rfl
-- 78: int u64
@[simp] theorem sz78 : szP Try.prog 78 = some 1 := by kernel_rfl
@[simp] theorem agg78 : aggP Try.prog 78 = some false := by kernel_rfl
@[simp] theorem int78 : intP Try.prog 78 = some .u64 := by kernel_rfl
@[simp] theorem str78 : strP Try.prog 78 = false := by kernel_rfl
@[simp] theorem und78 : (Program.underlying Try.prog 78).isSome = true := by kernel_rfl
@[simp] theorem conc78 : Try.prog.concrete 78 = true := by kernel_rfl
@[simp] theorem bytes78 : bytesP Try.prog 78 = some 8 := by kernel_rfl
@[simp] theorem zero78 : zeroP Try.prog 78 = some [(.int .u64 0)] := by kernel_rfl
-- 79: func zero ?Go.Value.nilFunc
@[simp] theorem sz79 : szP Try.prog 79 = some 1 := by kernel_rfl
@[simp] theorem agg79 : aggP Try.prog 79 = some false := by kernel_rfl
@[simp] theorem str79 : strP Try.prog 79 = false := by kernel_rfl
@[simp] theorem conc79 : Try.prog.concrete 79 = true := by kernel_rfl
@[simp] theorem bytes79 : bytesP Try.prog 79 = some 8 := by kernel_rfl
-- 80: func zero ?Go.Value.nilFunc
@[simp] theorem sz80 : szP Try.prog 80 = some 1 := by kernel_rfl
@[simp] theorem agg80 : aggP Try.prog 80 = some false := by kernel_rfl
@[simp] theorem str80 : strP Try.prog 80 = false := by kernel_rfl
@[simp] theorem conc80 : Try.prog.concrete 80 = true := by kernel_rfl
@[simp] theorem bytes80 : bytesP Try.prog 80 = some 8 := by kernel_rfl
-- 81: func zero ?Go.Value.nilFunc
@[simp] theorem sz81 : szP Try.prog 81 = some 1 := by kernel_rfl
@[simp] theorem agg81 : aggP Try.prog 81 = some false := by kernel_rfl
@[simp] theorem str81 : strP Try.prog 81 = false := by kernel_rfl
@[simp] theorem conc81 : Try.prog.concrete 81 = true := by kernel_rfl
@[simp] theorem bytes81 : bytesP Try.prog 81 = some 8 := by kernel_rfl
-- 82: func zero ?Go.Value.nilFunc
@[simp] theorem sz82 : szP Try.prog 82 = some 1 := by kernel_rfl
@[simp] theorem agg82 : aggP Try.prog 82 = some false := by kernel_rfl
@[simp] theorem str82 : strP Try.prog 82 = false := by kernel_rfl
@[simp] theorem conc82 : Try.prog.concrete 82 = true := by kernel_rfl
@[simp] theorem bytes82 : bytesP Try.prog 82 = some 8 := by kernel_rfl
-- 83: func zero ?Go.Value.nilFunc
@[simp] theorem sz83 : szP Try.prog 83 = some 1 := by kernel_rfl
@[simp] theorem agg83 : aggP Try.prog 83 = some false := by kernel_rfl
@[simp] theorem str83 : strP Try.prog 83 = false := by kernel_rfl
@[simp] theorem conc83 : Try.prog.concrete 83 = true := by kernel_rfl
@[simp] theorem bytes83 : bytesP Try.prog 83 = some 8 := by kernel_rfl
-- 84: int i64
@[simp] theorem sz84 : szP Try.prog 84 = some 1 := by kernel_rfl
@[simp] theorem agg84 : aggP Try.prog 84 = some false := by kernel_rfl
@[simp] theorem int84 : intP Try.prog 84 = some .i64 := by kernel_rfl
@[simp] theorem str84 : strP Try.prog 84 = false := by kernel_rfl
@[simp] theorem und84 : (Program.underlying Try.prog 84).isSome = true := by kernel_rfl
@[simp] theorem conc84 : Try.prog.concrete 84 = true := by kernel_rfl
@[simp] theorem bytes84 : bytesP Try.prog 84 = some 8 := by kernel_rfl
@[simp] theorem zero84 : zeroP Try.prog 84 = some [(.int .i64 0)] := by kernel_rfl
-- 85: tuple
@[simp] theorem sz85 : szP Try.prog 85 = some 1 := by kernel_rfl
@[simp] theorem agg85 : aggP Try.prog 85 = some false := by kernel_rfl
@[simp] theorem str85 : strP Try.prog 85 = false := by kernel_rfl
@[simp] theorem conc85 : Try.prog.concrete 85 = true := by kernel_rfl
@[simp] theorem bytes85 : bytesP Try.prog 85 = some 0 := by kernel_rfl
-- 86: func zero ?Go.Value.nilFunc
@[simp] theorem sz86 : szP Try.prog 86 = some 1 := by kernel_rfl
@[simp] theorem agg86 : aggP Try.prog 86 = some false := by kernel_rfl
@[simp] theorem str86 : strP Try.prog 86 = false := by kernel_rfl
@[simp] theorem conc86 : Try.prog.concrete 86 = true := by kernel_rfl
@[simp] theorem bytes86 : bytesP Try.prog 86 = some 8 := by kernel_rfl
-- 87: func zero ?Go.Value.nilFunc
@[simp] theorem sz87 : szP Try.prog 87 = some 1 := by kernel_rfl
@[simp] theorem agg87 : aggP Try.prog 87 = some false := by kernel_rfl
@[simp] theorem str87 : strP Try.prog 87 = false := by kernel_rfl
@[simp] theorem conc87 : Try.prog.concrete 87 = true := by kernel_rfl
@[simp] theorem bytes87 : bytesP Try.prog 87 = some 8 := by kernel_rfl
-- 88: func zero ?Go.Value.nilFunc
@[simp] theorem sz88 : szP Try.prog 88 = some 1 := by kernel_rfl
@[simp] theorem agg88 : aggP Try.prog 88 = some false := by kernel_rfl
@[simp] theorem str88 : strP Try.prog 88 = false := by kernel_rfl
@[simp] theorem conc88 : Try.prog.concrete 88 = true := by kernel_rfl
@[simp] theorem bytes88 : bytesP Try.prog 88 = some 8 := by kernel_rfl
-- 89: func zero ?Go.Value.nilFunc
@[simp] theorem sz89 : szP Try.prog 89 = some 1 := by kernel_rfl
@[simp] theorem agg89 : aggP Try.prog 89 = some false := by kernel_rfl
@[simp] theorem str89 : strP Try.prog 89 = false := by kernel_rfl
@[simp] theorem conc89 : Try.prog.concrete 89 = true := by kernel_rfl
@[simp] theorem bytes89 : bytesP Try.prog 89 = some 8 := by kernel_rfl
-- 90: func zero ?Go.Value.nilFunc
@[simp] theorem sz90 : szP Try.prog 90 = some 1 := by kernel_rfl
@[simp] theorem agg90 : aggP Try.prog 90 = some false := by kernel_rfl
@[simp] theorem str90 : strP Try.prog 90 = false := by kernel_rfl
@[simp] theorem conc90 : Try.prog.concrete 90 = true := by kernel_rfl
@[simp] theorem bytes90 : bytesP Try.prog 90 = some 8 := by kernel_rfl
-- 91: func zero ?Go.Value.nilFunc
@[simp] theorem sz91 : szP Try.prog 91 = some 1 := by kernel_rfl
@[simp] theorem agg91 : aggP Try.prog 91 = some false := by kernel_rfl
@[simp] theorem str91 : strP Try.prog 91 = false := by kernel_rfl
@[simp] theorem conc91 : Try.prog.concrete 91 = true := by kernel_rfl
@[simp] theorem bytes91 : bytesP Try.prog 91 = some 8 := by kernel_rfl
-- 92: func zero ?Go.Value.nilFunc
@[simp] theorem sz92 : szP Try.prog 92 = some 1 := by kernel_rfl
@[simp] theorem agg92 : aggP Try.prog 92 = some false := by kernel_rfl
@[simp] theorem str92 : strP Try.prog 92 = false := by kernel_rfl
@[simp] theorem conc92 : Try.prog.concrete 92 = true := by kernel_rfl
@[simp] theorem bytes92 : bytesP Try.prog 92 = some 8 := by kernel_rfl
-- 93: func zero ?Go.Value.nilFunc
@[simp] theorem sz93 : szP Try.prog 93 = some 1 := by kernel_rfl
@[simp] theorem agg93 : aggP Try.prog 93 = some false := by kernel_rfl
@[simp] theorem str93 : strP Try.prog 93 = false := by kernel_rfl
@[simp] theorem conc93 : Try.prog.concrete 93 = true := by kernel_rfl
@[simp] theorem bytes93 : bytesP Try.prog 93 = some 8 := by kernel_rfl
-- 94: func zero ?Go.Value.nilFunc
@[simp] theorem sz94 : szP Try.prog 94 = some 1 := by kernel_rfl
@[simp] theorem agg94 : aggP Try.prog 94 = some false := by kernel_rfl
@[simp] theorem str94 : strP Try.prog 94 = false := by kernel_rfl
@[simp] theorem conc94 : Try.prog.concrete 94 = true := by kernel_rfl
@[simp] theorem bytes94 : bytesP Try.prog 94 = some 8 := by kernel_rfl
-- 95: func zero ?Go.Value.nilFunc
@[simp] theorem sz95 : szP Try.prog 95 = some 1 := by kernel_rfl
@[simp] theorem agg95 : aggP Try.prog 95 = some false := by kernel_rfl
@[simp] theorem str95 : strP Try.prog 95 = false := by kernel_rfl
@[simp] theorem conc95 : Try.prog.concrete 95 = true := by kernel_rfl
@[simp] theorem bytes95 : bytesP Try.prog 95 = some 8 := by kernel_rfl
-- 96: func zero ?Go.Value.nilFunc
@[simp] theorem sz96 : szP Try.prog 96 = some 1 := by kernel_rfl
@[simp] theorem agg96 : aggP Try.prog 96 = some false := by kernel_rfl
@[simp] theorem str96 : strP Try.prog 96 = false := by kernel_rfl
@[simp] theorem conc96 : Try.prog.concrete 96 = true := by kernel_rfl
@[simp] theorem bytes96 : bytesP Try.prog 96 = some 8 := by kernel_rfl
-- 97: tuple
@[simp] theorem sz97 : szP Try.prog 97 = some 1 := by kernel_rfl
@[simp] theorem agg97 : aggP Try.prog 97 = some false := by kernel_rfl
@[simp] theorem str97 : strP Try.prog 97 = false := by kernel_rfl
@[simp] theorem conc97 : Try.prog.concrete 97 = true := by kernel_rfl
@[simp] theorem bytes97 : bytesP Try.prog 97 = some 0 := by kernel_rfl
-- 98: func zero ?Go.Value.nilFunc
@[simp] theorem sz98 : szP Try.prog 98 = some 1 := by kernel_rfl
@[simp] theorem agg98 : aggP Try.prog 98 = some false := by kernel_rfl
@[simp] theorem str98 : strP Try.prog 98 = false := by kernel_rfl
@[simp] theorem conc98 : Try.prog.concrete 98 = true := by kernel_rfl
@[simp] theorem bytes98 : bytesP Try.prog 98 = some 8 := by kernel_rfl
-- 99: func zero ?Go.Value.nilFunc
@[simp] theorem sz99 : szP Try.prog 99 = some 1 := by kernel_rfl
@[simp] theorem agg99 : aggP Try.prog 99 = some false := by kernel_rfl
@[simp] theorem str99 : strP Try.prog 99 = false := by kernel_rfl
@[simp] theorem conc99 : Try.prog.concrete 99 = true := by kernel_rfl
@[simp] theorem bytes99 : bytesP Try.prog 99 = some 8 := by kernel_rfl
-- 100: func zero ?Go.Value.nilFunc
@[simp] theorem sz100 : szP Try.prog 100 = some 1 := by kernel_rfl
@[simp] theorem agg100 : aggP Try.prog 100 = some false := by kernel_rfl
@[simp] theorem str100 : strP Try.prog 100 = false := by kernel_rfl
@[simp] theorem conc100 : Try.prog.concrete 100 = true := by kernel_rfl
@[simp] theorem bytes100 : bytesP Try.prog 100 = some 8 := by kernel_rfl
-- 101: func zero ?Go.Value.nilFunc
@[simp] theorem sz101 : szP Try.prog 101 = some 1 := by kernel_rfl
@[simp] theorem agg101 : aggP Try.prog 101 = some false := by kernel_rfl
@[simp] theorem str101 : strP Try.prog 101 = false := by kernel_rfl
@[simp] theorem conc101 : Try.prog.concrete 101 = true := by kernel_rfl
@[simp] theorem bytes101 : bytesP Try.prog 101 = some 8 := by kernel_rfl
-- 102: func zero ?Go.Value.nilFunc
@[simp] theorem sz102 : szP Try.prog 102 = some 1 := by kernel_rfl
@[simp] theorem agg102 : aggP Try.prog 102 = some false := by kernel_rfl
@[simp] theorem str102 : strP Try.prog 102 = false := by kernel_rfl
@[simp] theorem conc102 : Try.prog.concrete 102 = true := by kernel_rfl
@[simp] theorem bytes102 : bytesP Try.prog 102 = some 8 := by kernel_rfl
-- 103: func zero ?Go.Value.nilFunc
@[simp] theorem sz103 : szP Try.prog 103 = some 1 := by kernel_rfl
@[simp] theorem agg103 : aggP Try.prog 103 = some false := by kernel_rfl
@[simp] theorem str103 : strP Try.prog 103 = false := by kernel_rfl
@[simp] theorem conc103 : Try.prog.concrete 103 = true := by kernel_rfl
@[simp] theorem bytes103 : bytesP Try.prog 103 = some 8 := by kernel_rfl
-- 104: func zero ?Go.Value.nilFunc
@[simp] theorem sz104 : szP Try.prog 104 = some 1 := by kernel_rfl
@[simp] theorem agg104 : aggP Try.prog 104 = some false := by kernel_rfl
@[simp] theorem str104 : strP Try.prog 104 = false := by kernel_rfl
@[simp] theorem conc104 : Try.prog.concrete 104 = true := by kernel_rfl
@[simp] theorem bytes104 : bytesP Try.prog 104 = some 8 := by kernel_rfl
-- 105: func zero ?Go.Value.nilFunc
@[simp] theorem sz105 : szP Try.prog 105 = some 1 := by kernel_rfl
@[simp] theorem agg105 : aggP Try.prog 105 = some false := by kernel_rfl
@[simp] theorem str105 : strP Try.prog 105 = false := by kernel_rfl
@[simp] theorem conc105 : Try.prog.concrete 105 = true := by kernel_rfl
@[simp] theorem bytes105 : bytesP Try.prog 105 = some 8 := by kernel_rfl
-- 106: func zero ?Go.Value.nilFunc
@[simp] theorem sz106 : szP Try.prog 106 = some 1 := by kernel_rfl
@[simp] theorem agg106 : aggP Try.prog 106 = some false := by kernel_rfl
@[simp] theorem str106 : strP Try.prog 106 = false := by kernel_rfl
@[simp] theorem conc106 : Try.prog.concrete 106 = true := by kernel_rfl
@[simp] theorem bytes106 : bytesP Try.prog 106 = some 8 := by kernel_rfl
-- 107: func zero ?Go.Value.nilFunc
@[simp] theorem sz107 : szP Try.prog 107 = some 1 := by kernel_rfl
@[simp] theorem agg107 : aggP Try.prog 107 = some false := by kernel_rfl
@[simp] theorem str107 : strP Try.prog 107 = false := by kernel_rfl
@[simp] theorem conc107 : Try.prog.concrete 107 = true := by kernel_rfl
@[simp] theorem bytes107 : bytesP Try.prog 107 = some 8 := by kernel_rfl
-- 108: func zero ?Go.Value.nilFunc
@[simp] theorem sz108 : szP Try.prog 108 = some 1 := by kernel_rfl
@[simp] theorem agg108 : aggP Try.prog 108 = some false := by kernel_rfl
@[simp] theorem str108 : strP Try.prog 108 = false := by kernel_rfl
@[simp] theorem conc108 : Try.prog.concrete 108 = true := by kernel_rfl
@[simp] theorem bytes108 : bytesP Try.prog 108 = some 8 := by kernel_rfl
-- 109: func zero ?Go.Value.nilFunc
@[simp] theorem sz109 : szP Try.prog 109 = some 1 := by kernel_rfl
@[simp] theorem agg109 : aggP Try.prog 109 = some false := by kernel_rfl
@[simp] theorem str109 : strP Try.prog 109 = false := by kernel_rfl
@[simp] theorem conc109 : Try.prog.concrete 109 = true := by kernel_rfl
@[simp] theorem bytes109 : bytesP Try.prog 109 = some 8 := by kernel_rfl
-- 110: func zero ?Go.Value.nilFunc
@[simp] theorem sz110 : szP Try.prog 110 = some 1 := by kernel_rfl
@[simp] theorem agg110 : aggP Try.prog 110 = some false := by kernel_rfl
@[simp] theorem str110 : strP Try.prog 110 = false := by kernel_rfl
@[simp] theorem conc110 : Try.prog.concrete 110 = true := by kernel_rfl
@[simp] theorem bytes110 : bytesP Try.prog 110 = some 8 := by kernel_rfl
-- 111: func zero ?Go.Value.nilFunc
@[simp] theorem sz111 : szP Try.prog 111 = some 1 := by kernel_rfl
@[simp] theorem agg111 : aggP Try.prog 111 = some false := by kernel_rfl
@[simp] theorem str111 : strP Try.prog 111 = false := by kernel_rfl
@[simp] theorem conc111 : Try.prog.concrete 111 = true := by kernel_rfl
@[simp] theorem bytes111 : bytesP Try.prog 111 = some 8 := by kernel_rfl
-- 112: func zero ?Go.Value.nilFunc
@[simp] theorem sz112 : szP Try.prog 112 = some 1 := by kernel_rfl
@[simp] theorem agg112 : aggP Try.prog 112 = some false := by kernel_rfl
@[simp] theorem str112 : strP Try.prog 112 = false := by kernel_rfl
@[simp] theorem conc112 : Try.prog.concrete 112 = true := by kernel_rfl
@[simp] theorem bytes112 : bytesP Try.prog 112 = some 8 := by kernel_rfl
-- 113: func zero ?Go.Value.nilFunc
@[simp] theorem sz113 : szP Try.prog 113 = some 1 := by kernel_rfl
@[simp] theorem agg113 : aggP Try.prog 113 = some false := by kernel_rfl
@[simp] theorem str113 : strP Try.prog 113 = false := by kernel_rfl
@[simp] theorem conc113 : Try.prog.concrete 113 = true := by kernel_rfl
@[simp] theorem bytes113 : bytesP Try.prog 113 = some 8 := by kernel_rfl
-- 114: func zero ?Go.Value.nilFunc
@[simp] theorem sz114 : szP Try.prog 114 = some 1 := by kernel_rfl
@[simp] theorem agg114 : aggP Try.prog 114 = some false := by kernel_rfl
@[simp] theorem str114 : strP Try.prog 114 = false := by kernel_rfl
@[simp] theorem conc114 : Try.prog.concrete 114 = true := by kernel_rfl
@[simp] theorem bytes114 : bytesP Try.prog 114 = some 8 := by kernel_rfl
-- 115: func zero ?Go.Value.nilFunc
@[simp] theorem sz115 : szP Try.prog 115 = some 1 := by kernel_rfl
@[simp] theorem agg115 : aggP Try.prog 115 = some false := by kernel_rfl
@[simp] theorem str115 : strP Try.prog 115 = false := by kernel_rfl
@[simp] theorem conc115 : Try.prog.concrete 115 = true := by kernel_rfl
@[simp] theorem bytes115 : bytesP Try.prog 115 = some 8 := by kernel_rfl
-- 116: func zero ?Go.Value.nilFunc
@[simp] theorem sz116 : szP Try.prog 116 = some 1 := by kernel_rfl
@[simp] theorem agg116 : aggP Try.prog 116 = some false := by kernel_rfl
@[simp] theorem str116 : strP Try.prog 116 = false := by kernel_rfl
@[simp] theorem conc116 : Try.prog.concrete 116 = true := by kernel_rfl
@[simp] theorem bytes116 : bytesP Try.prog 116 = some 8 := by kernel_rfl
-- 117: func zero ?Go.Value.nilFunc
@[simp] theorem sz117 : szP Try.prog 117 = some 1 := by kernel_rfl
@[simp] theorem agg117 : aggP Try.prog 117 = some false := by kernel_rfl
@[simp] theorem str117 : strP Try.prog 117 = false := by kernel_rfl
@[simp] theorem conc117 : Try.prog.concrete 117 = true := by kernel_rfl
@[simp] theorem bytes117 : bytesP Try.prog 117 = some 8 := by kernel_rfl
-- 118: func zero ?Go.Value.nilFunc
@[simp] theorem sz118 : szP Try.prog 118 = some 1 := by kernel_rfl
@[simp] theorem agg118 : aggP Try.prog 118 = some false := by kernel_rfl
@[simp] theorem str118 : strP Try.prog 118 = false := by kernel_rfl
@[simp] theorem conc118 : Try.prog.concrete 118 = true := by kernel_rfl
@[simp] theorem bytes118 : bytesP Try.prog 118 = some 8 := by kernel_rfl
-- 119: func zero ?Go.Value.nilFunc
@[simp] theorem sz119 : szP Try.prog 119 = some 1 := by kernel_rfl
@[simp] theorem agg119 : aggP Try.prog 119 = some false := by kernel_rfl
@[simp] theorem str119 : strP Try.prog 119 = false := by kernel_rfl
@[simp] theorem conc119 : Try.prog.concrete 119 = true := by kernel_rfl
@[simp] theorem bytes119 : bytesP Try.prog 119 = some 8 := by kernel_rfl
-- 120: func zero ?Go.Value.nilFunc
@[simp] theorem sz120 : szP Try.prog 120 = some 1 := by kernel_rfl
@[simp] theorem agg120 : aggP Try.prog 120 = some false := by kernel_rfl
@[simp] theorem str120 : strP Try.prog 120 = false := by kernel_rfl
@[simp] theorem conc120 : Try.prog.concrete 120 = true := by kernel_rfl
@[simp] theorem bytes120 : bytesP Try.prog 120 = some 8 := by kernel_rfl
-- 121: func zero ?Go.Value.nilFunc
@[simp] theorem sz121 : szP Try.prog 121 = some 1 := by kernel_rfl
@[simp] theorem agg121 : aggP Try.prog 121 = some false := by kernel_rfl
@[simp] theorem str121 : strP Try.prog 121 = false := by kernel_rfl
@[simp] theorem conc121 : Try.prog.concrete 121 = true := by kernel_rfl
@[simp] theorem bytes121 : bytesP Try.prog 121 = some 8 := by kernel_rfl
-- 122: func zero ?Go.Value.nilFunc
@[simp] theorem sz122 : szP Try.prog 122 = some 1 := by kernel_rfl
@[simp] theorem agg122 : aggP Try.prog 122 = some false := by kernel_rfl
@[simp] theorem str122 : strP Try.prog 122 = false := by kernel_rfl
@[simp] theorem conc122 : Try.prog.concrete 122 = true := by kernel_rfl
@[simp] theorem bytes122 : bytesP Try.prog 122 = some 8 := by kernel_rfl
-- 123: func zero ?Go.Value.nilFunc
@[simp] theorem sz123 : szP Try.prog 123 = some 1 := by kernel_rfl
@[simp] theorem agg123 : aggP Try.prog 123 = some false := by kernel_rfl
@[simp] theorem str123 : strP Try.prog 123 = false := by kernel_rfl
@[simp] theorem conc123 : Try.prog.concrete 123 = true := by kernel_rfl
@[simp] theorem bytes123 : bytesP Try.prog 123 = some 8 := by kernel_rfl
-- 124: func zero ?Go.Value.nilFunc
@[simp] theorem sz124 : szP Try.prog 124 = some 1 := by kernel_rfl
@[simp] theorem agg124 : aggP Try.prog 124 = some false := by kernel_rfl
@[simp] theorem str124 : strP Try.prog 124 = false := by kernel_rfl
@[simp] theorem conc124 : Try.prog.concrete 124 = true := by kernel_rfl
@[simp] theorem bytes124 : bytesP Try.prog 124 = some 8 := by kernel_rfl
-- 125: func zero ?Go.Value.nilFunc
@[simp] theorem sz125 : szP Try.prog 125 = some 1 := by kernel_rfl
@[simp] theorem agg125 : aggP Try.prog 125 = some false := by kernel_rfl
@[simp] theorem str125 : strP Try.prog 125 = false := by kernel_rfl
@[simp] theorem conc125 : Try.prog.concrete 125 = true := by kernel_rfl
@[simp] theorem bytes125 : bytesP Try.prog 125 = some 8 := by kernel_rfl
-- 126: func zero ?Go.Value.nilFunc
@[simp] theorem sz126 : szP Try.prog 126 = some 1 := by kernel_rfl
@[simp] theorem agg126 : aggP Try.prog 126 = some false := by kernel_rfl
@[simp] theorem str126 : strP Try.prog 126 = false := by kernel_rfl
@[simp] theorem conc126 : Try.prog.concrete 126 = true := by kernel_rfl
@[simp] theorem bytes126 : bytesP Try.prog 126 = some 8 := by kernel_rfl
-- 127: func zero ?Go.Value.nilFunc
@[simp] theorem sz127 : szP Try.prog 127 = some 1 := by kernel_rfl
@[simp] theorem agg127 : aggP Try.prog 127 = some false := by kernel_rfl
@[simp] theorem str127 : strP Try.prog 127 = false := by kernel_rfl
@[simp] theorem conc127 : Try.prog.concrete 127 = true := by kernel_rfl
@[simp] theorem bytes127 : bytesP Try.prog 127 = some 8 := by kernel_rfl
-- 128: func zero ?Go.Value.nilFunc
@[simp] theorem sz128 : szP Try.prog 128 = some 1 := by kernel_rfl
@[simp] theorem agg128 : aggP Try.prog 128 = some false := by kernel_rfl
@[simp] theorem str128 : strP Try.prog 128 = false := by kernel_rfl
@[simp] theorem conc128 : Try.prog.concrete 128 = true := by kernel_rfl
@[simp] theorem bytes128 : bytesP Try.prog 128 = some 8 := by kernel_rfl
-- 129: tuple
@[simp] theorem sz129 : szP Try.prog 129 = some 1 := by kernel_rfl
@[simp] theorem agg129 : aggP Try.prog 129 = some false := by kernel_rfl
@[simp] theorem str129 : strP Try.prog 129 = false := by kernel_rfl
@[simp] theorem conc129 : Try.prog.concrete 129 = true := by kernel_rfl
@[simp] theorem bytes129 : bytesP Try.prog 129 = some 0 := by kernel_rfl
-- 130: func zero ?Go.Value.nilFunc
@[simp] theorem sz130 : szP Try.prog 130 = some 1 := by kernel_rfl
@[simp] theorem agg130 : aggP Try.prog 130 = some false := by kernel_rfl
@[simp] theorem str130 : strP Try.prog 130 = false := by kernel_rfl
@[simp] theorem conc130 : Try.prog.concrete 130 = true := by kernel_rfl
@[simp] theorem bytes130 : bytesP Try.prog 130 = some 8 := by kernel_rfl
-- 131: func zero ?Go.Value.nilFunc
@[simp] theorem sz131 : szP Try.prog 131 = some 1 := by kernel_rfl
@[simp] theorem agg131 : aggP Try.prog 131 = some false := by kernel_rfl
@[simp] theorem str131 : strP Try.prog 131 = false := by kernel_rfl
@[simp] theorem conc131 : Try.prog.concrete 131 = true := by kernel_rfl
@[simp] theorem bytes131 : bytesP Try.prog 131 = some 8 := by kernel_rfl
-- 132: func zero ?Go.Value.nilFunc
@[simp] theorem sz132 : szP Try.prog 132 = some 1 := by kernel_rfl
@[simp] theorem agg132 : aggP Try.prog 132 = some false := by kernel_rfl
@[simp] theorem str132 : strP Try.prog 132 = false := by kernel_rfl
@[simp] theorem conc132 : Try.prog.concrete 132 = true := by kernel_rfl
@[simp] theorem bytes132 : bytesP Try.prog 132 = some 8 := by kernel_rfl
-- 133: func zero ?Go.Value.nilFunc
@[simp] theorem sz133 : szP Try.prog 133 = some 1 := by kernel_rfl
@[simp] theorem agg133 : aggP Try.prog 133 = some false := by kernel_rfl
@[simp] theorem str133 : strP Try.prog 133 = false := by kernel_rfl
@[simp] theorem conc133 : Try.prog.concrete 133 = true := by kernel_rfl
@[simp] theorem bytes133 : bytesP Try.prog 133 = some 8 := by kernel_rfl
-- 134: func zero ?Go.Value.nilFunc
@[simp] theorem sz134 : szP Try.prog 134 = some 1 := by kernel_rfl
@[simp] theorem agg134 : aggP Try.prog 134 = some false := by kernel_rfl
@[simp] theorem str134 : strP Try.prog 134 = false := by kernel_rfl
@[simp] theorem conc134 : Try.prog.concrete 134 = true := by kernel_rfl
@[simp] theorem bytes134 : bytesP Try.prog 134 = some 8 := by kernel_rfl
-- 135: func zero ?Go.Value.nilFunc
@[simp] theorem sz135 : szP Try.prog 135 = some 1 := by kernel_rfl
@[simp] theorem agg135 : aggP Try.prog 135 = some false := by kernel_rfl
@[simp] theorem str135 : strP Try.prog 135 = false := by kernel_rfl
@[simp] theorem conc135 : Try.prog.concrete 135 = true := by kernel_rfl
@[simp] theorem bytes135 : bytesP Try.prog 135 = some 8 := by kernel_rfl
-- 136: tuple
@[simp] theorem sz136 : szP Try.prog 136 = some 1 := by kernel_rfl
@[simp] theorem agg136 : aggP Try.prog 136 = some false := by kernel_rfl
@[simp] theorem str136 : strP Try.prog 136 = false := by kernel_rfl
@[simp] theorem conc136 : Try.prog.concrete 136 = true := by kernel_rfl
@[simp] theorem bytes136 : bytesP Try.prog 136 = some 0 := by kernel_rfl
-- 137: func zero ?Go.Value.nilFunc
@[simp] theorem sz137 : szP Try.prog 137 = some 1 := by kernel_rfl
@[simp] theorem agg137 : aggP Try.prog 137 = some false := by kernel_rfl
@[simp] theorem str137 : strP Try.prog 137 = false := by kernel_rfl
@[simp] theorem conc137 : Try.prog.concrete 137 = true := by kernel_rfl
@[simp] theorem bytes137 : bytesP Try.prog 137 = some 8 := by kernel_rfl
-- 138: func zero ?Go.Value.nilFunc
@[simp] theorem sz138 : szP Try.prog 138 = some 1 := by kernel_rfl
@[simp] theorem agg138 : aggP Try.prog 138 = some false := by kernel_rfl
@[simp] theorem str138 : strP Try.prog 138 = false := by kernel_rfl
@[simp] theorem conc138 : Try.prog.concrete 138 = true := by kernel_rfl
@[simp] theorem bytes138 : bytesP Try.prog 138 = some 8 := by kernel_rfl
-- 139: tuple
@[simp] theorem sz139 : szP Try.prog 139 = some 1 := by kernel_rfl
@[simp] theorem agg139 : aggP Try.prog 139 = some false := by kernel_rfl
@[simp] theorem str139 : strP Try.prog 139 = false := by kernel_rfl
@[simp] theorem conc139 : Try.prog.concrete 139 = true := by kernel_rfl
@[simp] theorem bytes139 : bytesP Try.prog 139 = some 0 := by kernel_rfl
-- 140: func zero ?Go.Value.nilFunc
@[simp] theorem sz140 : szP Try.prog 140 = some 1 := by kernel_rfl
@[simp] theorem agg140 : aggP Try.prog 140 = some false := by kernel_rfl
@[simp] theorem str140 : strP Try.prog 140 = false := by kernel_rfl
@[simp] theorem conc140 : Try.prog.concrete 140 = true := by kernel_rfl
@[simp] theorem bytes140 : bytesP Try.prog 140 = some 8 := by kernel_rfl
-- 141: func zero ?Go.Value.nilFunc
@[simp] theorem sz141 : szP Try.prog 141 = some 1 := by kernel_rfl
@[simp] theorem agg141 : aggP Try.prog 141 = some false := by kernel_rfl
@[simp] theorem str141 : strP Try.prog 141 = false := by kernel_rfl
@[simp] theorem conc141 : Try.prog.concrete 141 = true := by kernel_rfl
@[simp] theorem bytes141 : bytesP Try.prog 141 = some 8 := by kernel_rfl
-- 142: func zero ?Go.Value.nilFunc
@[simp] theorem sz142 : szP Try.prog 142 = some 1 := by kernel_rfl
@[simp] theorem agg142 : aggP Try.prog 142 = some false := by kernel_rfl
@[simp] theorem str142 : strP Try.prog 142 = false := by kernel_rfl
@[simp] theorem conc142 : Try.prog.concrete 142 = true := by kernel_rfl
@[simp] theorem bytes142 : bytesP Try.prog 142 = some 8 := by kernel_rfl
-- 143: func zero ?Go.Value.nilFunc
@[simp] theorem sz143 : szP Try.prog 143 = some 1 := by kernel_rfl
@[simp] theorem agg143 : aggP Try.prog 143 = some false := by kernel_rfl
@[simp] theorem str143 : strP Try.prog 143 = false := by kernel_rfl
@[simp] theorem conc143 : Try.prog.concrete 143 = true := by kernel_rfl
@[simp] theorem bytes143 : bytesP Try.prog 143 = some 8 := by kernel_rfl
-- 144: func zero ?Go.Value.nilFunc
@[simp] theorem sz144 : szP Try.prog 144 = some 1 := by kernel_rfl
@[simp] theorem agg144 : aggP Try.prog 144 = some false := by kernel_rfl
@[simp] theorem str144 : strP Try.prog 144 = false := by kernel_rfl
@[simp] theorem conc144 : Try.prog.concrete 144 = true := by kernel_rfl
@[simp] theorem bytes144 : bytesP Try.prog 144 = some 8 := by kernel_rfl
-- 145: func zero ?Go.Value.nilFunc
@[simp] theorem sz145 : szP Try.prog 145 = some 1 := by kernel_rfl
@[simp] theorem agg145 : aggP Try.prog 145 = some false := by kernel_rfl
@[simp] theorem str145 : strP Try.prog 145 = false := by kernel_rfl
@[simp] theorem conc145 : Try.prog.concrete 145 = true := by kernel_rfl
@[simp] theorem bytes145 : bytesP Try.prog 145 = some 8 := by kernel_rfl
-- 146: func zero ?Go.Value.nilFunc
@[simp] theorem sz146 : szP Try.prog 146 = some 1 := by kernel_rfl
@[simp] theorem agg146 : aggP Try.prog 146 = some false := by kernel_rfl
@[simp] theorem str146 : strP Try.prog 146 = false := by kernel_rfl
@[simp] theorem conc146 : Try.prog.concrete 146 = true := by kernel_rfl
@[simp] theorem bytes146 : bytesP Try.prog 146 = some 8 := by kernel_rfl
-- 147: func zero ?Go.Value.nilFunc
@[simp] theorem sz147 : szP Try.prog 147 = some 1 := by kernel_rfl
@[simp] theorem agg147 : aggP Try.prog 147 = some false := by kernel_rfl
@[simp] theorem str147 : strP Try.prog 147 = false := by kernel_rfl
@[simp] theorem conc147 : Try.prog.concrete 147 = true := by kernel_rfl
@[simp] theorem bytes147 : bytesP Try.prog 147 = some 8 := by kernel_rfl
-- 148: int u32
@[simp] theorem sz148 : szP Try.prog 148 = some 1 := by kernel_rfl
@[simp] theorem agg148 : aggP Try.prog 148 = some false := by kernel_rfl
@[simp] theorem int148 : intP Try.prog 148 = some .u32 := by kernel_rfl
@[simp] theorem str148 : strP Try.prog 148 = false := by kernel_rfl
@[simp] theorem und148 : (Program.underlying Try.prog 148).isSome = true := by kernel_rfl
@[simp] theorem conc148 : Try.prog.concrete 148 = true := by kernel_rfl
@[simp] theorem bytes148 : bytesP Try.prog 148 = some 4 := by kernel_rfl
@[simp] theorem zero148 : zeroP Try.prog 148 = some [(.int .u32 0)] := by kernel_rfl
-- 149: func zero ?Go.Value.nilFunc
@[simp] theorem sz149 : szP Try.prog 149 = some 1 := by kernel_rfl
@[simp] theorem agg149 : aggP Try.prog 149 = some false := by kernel_rfl
@[simp] theorem str149 : strP Try.prog 149 = false := by kernel_rfl
@[simp] theorem conc149 : Try.prog.concrete 149 = true := by kernel_rfl
@[simp] theorem bytes149 : bytesP Try.prog 149 = some 8 := by kernel_rfl
-- 150: int u64
@[simp] theorem sz150 : szP Try.prog 150 = some 1 := by kernel_rfl
@[simp] theorem agg150 : aggP Try.prog 150 = some false := by kernel_rfl
@[simp] theorem int150 : intP Try.prog 150 = some .u64 := by kernel_rfl
@[simp] theorem str150 : strP Try.prog 150 = false := by kernel_rfl
@[simp] theorem und150 : (Program.underlying Try.prog 150).isSome = true := by kernel_rfl
@[simp] theorem conc150 : Try.prog.concrete 150 = true := by kernel_rfl
@[simp] theorem bytes150 : bytesP Try.prog 150 = some 8 := by kernel_rfl
@[simp] theorem zero150 : zeroP Try.prog 150 = some [(.int .u64 0)] := by kernel_rfl
-- 151: slice 5
@[simp] theorem sz151 : szP Try.prog 151 = some 1 := by kernel_rfl
@[simp] theorem agg151 : aggP Try.prog 151 = some false := by kernel_rfl
@[simp] theorem elem151 : elemP Try.prog 151 = some 5 := by kernel_rfl
@[simp] theorem str151 : strP Try.prog 151 = false := by kernel_rfl
@[simp] theorem und151 : (Program.underlying Try.prog 151).isSome = true := by kernel_rfl
@[simp] theorem conc151 : Try.prog.concrete 151 = true := by kernel_rfl
@[simp] theorem bytes151 : bytesP Try.prog 151 = some 24 := by kernel_rfl
@[simp] theorem zero151 : zeroP Try.prog 151 = some [(.slice none 0 0)] := by kernel_rfl
-- 152: tuple
@[simp] theorem sz152 : szP Try.prog 152 = some 1 := by kernel_rfl
@[simp] theorem agg152 : aggP Try.prog 152 = some false := by kernel_rfl
@[simp] theorem str152 : strP Try.prog 152 = false := by kernel_rfl
@[simp] theorem conc152 : Try.prog.concrete 152 = true := by kernel_rfl
@[simp] theorem bytes152 : bytesP Try.prog 152 = some 0 := by kernel_rfl
-- 153: func zero ?Go.Value.nilFunc
@[simp] theorem sz153 : szP Try.prog 153 = some 1 := by kernel_rfl
@[simp] theorem agg153 : aggP Try.prog 153 = some false := by kernel_rfl
@[simp] theorem str153 : strP Try.prog 153 = false := by kernel_rfl
@[simp] theorem conc153 : Try.prog.concrete 153 = true := by kernel_rfl
@[simp] theorem bytes153 : bytesP Try.prog 153 = some 8 := by kernel_rfl
-- 154: func zero ?Go.Value.nilFunc
@[simp] theorem sz154 : szP Try.prog 154 = some 1 := by kernel_rfl
@[simp] theorem agg154 : aggP Try.prog 154 = some false := by kernel_rfl
@[simp] theorem str154 : strP Try.prog 154 = false := by kernel_rfl
@[simp] theorem conc154 : Try.prog.concrete 154 = true := by kernel_rfl
@[simp] theorem bytes154 : bytesP Try.prog 154 = some 8 := by kernel_rfl
-- 155: func zero ?Go.Value.nilFunc
@[simp] theorem sz155 : szP Try.prog 155 = some 1 := by kernel_rfl
@[simp] theorem agg155 : aggP Try.prog 155 = some false := by kernel_rfl
@[simp] theorem str155 : strP Try.prog 155 = false := by kernel_rfl
@[simp] theorem conc155 : Try.prog.concrete 155 = true := by kernel_rfl
@[simp] theorem bytes155 : bytesP Try.prog 155 = some 8 := by kernel_rfl
-- 156: func zero ?Go.Value.nilFunc
@[simp] theorem sz156 : szP Try.prog 156 = some 1 := by kernel_rfl
@[simp] theorem agg156 : aggP Try.prog 156 = some false := by kernel_rfl
@[simp] theorem str156 : strP Try.prog 156 = false := by kernel_rfl
@[simp] theorem conc156 : Try.prog.concrete 156 = true := by kernel_rfl
@[simp] theorem bytes156 : bytesP Try.prog 156 = some 8 := by kernel_rfl
-- 157: tuple
@[simp] theorem sz157 : szP Try.prog 157 = some 1 := by kernel_rfl
@[simp] theorem agg157 : aggP Try.prog 157 = some false := by kernel_rfl
@[simp] theorem str157 : strP Try.prog 157 = false := by kernel_rfl
@[simp] theorem conc157 : Try.prog.concrete 157 = true := by kernel_rfl
@[simp] theorem bytes157 : bytesP Try.prog 157 = some 0 := by kernel_rfl
-- 158: func zero ?Go.Value.nilFunc
@[simp] theorem sz158 : szP Try.prog 158 = some 1 := by kernel_rfl
@[simp] theorem agg158 : aggP Try.prog 158 = some false := by kernel_rfl
@[simp] theorem str158 : strP Try.prog 158 = false := by kernel_rfl
@[simp] theorem conc158 : Try.prog.concrete 158 = true := by kernel_rfl
@[simp] theorem bytes158 : bytesP Try.prog 158 = some 8 := by kernel_rfl
-- 159: func zero ?Go.Value.nilFunc
@[simp] theorem sz159 : szP Try.prog 159 = some 1 := by kernel_rfl
@[simp] theorem agg159 : aggP Try.prog 159 = some false := by kernel_rfl
@[simp] theorem str159 : strP Try.prog 159 = false := by kernel_rfl
@[simp] theorem conc159 : Try.prog.concrete 159 = true := by kernel_rfl
@[simp] theorem bytes159 : bytesP Try.prog 159 = some 8 := by kernel_rfl
-- 160: func zero ?Go.Value.nilFunc
@[simp] theorem sz160 : szP Try.prog 160 = some 1 := by kernel_rfl
@[simp] theorem agg160 : aggP Try.prog 160 = some false := by kernel_rfl
@[simp] theorem str160 : strP Try.prog 160 = false := by kernel_rfl
@[simp] theorem conc160 : Try.prog.concrete 160 = true := by kernel_rfl
@[simp] theorem bytes160 : bytesP Try.prog 160 = some 8 := by kernel_rfl
-- 161: func zero ?Go.Value.nilFunc
@[simp] theorem sz161 : szP Try.prog 161 = some 1 := by kernel_rfl
@[simp] theorem agg161 : aggP Try.prog 161 = some false := by kernel_rfl
@[simp] theorem str161 : strP Try.prog 161 = false := by kernel_rfl
@[simp] theorem conc161 : Try.prog.concrete 161 = true := by kernel_rfl
@[simp] theorem bytes161 : bytesP Try.prog 161 = some 8 := by kernel_rfl
-- 162: array 4 43
@[simp] theorem sz162 : szP Try.prog 162 = some 24 := by kernel_rfl
@[simp] theorem agg162 : aggP Try.prog 162 = some true := by kernel_rfl
@[simp] theorem arr162 : arrP Try.prog 162 = some (4, 43) := by kernel_rfl
@[simp] theorem str162 : strP Try.prog 162 = false := by kernel_rfl
@[simp] theorem conc162 : Try.prog.concrete 162 = true := by kernel_rfl
@[simp] theorem bytes162 : bytesP Try.prog 162 = some 384 := by kernel_rfl
@[simp] theorem zero162 : zeroP Try.prog 162 = some [(.int .i64 0), (.slice none 0 0), (.int .i64 0), (.slice none 0 0), (.int .i64 0), (.slice none 0 0), (.int .i64 0), (.slice none 0 0), (.int .i64 0), (.slice none 0 0), (.int .i64 0), (.slice none 0 0), (.int .i64 0), (.slice none 0 0), (.int .i64 0), (.slice none 0 0), (.int .i64 0), (.slice none 0 0), (.int .i64 0), (.slice none 0 0), (.int .i64 0), (.slice none 0 0), (.int .i64 0), (.slice none 0 0)] := by kernel_rfl
-- 163: func zero ?Go.Value.nilFunc
@[simp] theorem sz163 : szP Try.prog 163 = some 1 := by kernel_rfl
@[simp] theorem agg163 : aggP Try.prog 163 = some false := by kernel_rfl
@[simp] theorem str163 : strP Try.prog 163 = false := by kernel_rfl
@[simp] theorem conc163 : Try.prog.concrete 163 = true := by kernel_rfl
@[simp] theorem bytes163 : bytesP Try.prog 163 = some 8 := by kernel_rfl
-- 164: func zero ?Go.Value.nilFunc
@[simp] theorem sz164 : szP Try.prog 164 = some 1 := by kernel_rfl
@[simp] theorem agg164 : aggP Try.prog 164 = some false := by kernel_rfl
@[simp] theorem str164 : strP Try.prog 164 = false := by kernel_rfl
@[simp] theorem conc164 : Try.prog.concrete 164 = true := by kernel_rfl
@[simp] theorem bytes164 : bytesP Try.prog 164 = some 8 := by kernel_rfl
-- 165: func zero ?Go.Value.nilFunc
@[simp] theorem sz165 : szP Try.prog 165 = some 1 := by kernel_rfl
@[simp] theorem agg165 : aggP Try.prog 165 = some false := by kernel_rfl
@[simp] theorem str165 : strP Try.prog 165 = false := by kernel_rfl
@[simp] theorem conc165 : Try.prog.concrete 165 = true := by kernel_rfl
@[simp] theorem bytes165 : bytesP Try.prog 165 = some 8 := by kernel_rfl
-- 166: func zero ?Go.Value.nilFunc
@[simp] theorem sz166 : szP Try.prog 166 = some 1 := by kernel_rfl
@[simp] theorem agg166 : aggP Try.prog 166 = some false := by kernel_rfl
@[simp] theorem str166 : strP Try.prog 166 = false := by kernel_rfl
@[simp] theorem conc166 : Try.prog.concrete 166 = true := by kernel_rfl
@[simp] theorem bytes166 : bytesP Try.prog 166 = some 8 := by kernel_rfl
-- 167: func zero ?Go.Value.nilFunc
@[simp] theorem sz167 : szP Try.prog 167 = some 1 := by kernel_rfl
@[simp] theorem agg167 : aggP Try.prog 167 = some false := by kernel_rfl
@[simp] theorem str167 : strP Try.prog 167 = false := by kernel_rfl
@[simp] theorem conc167 : Try.prog.concrete 167 = true := by kernel_rfl
@[simp] theorem bytes167 : bytesP Try.prog 167 = some 8 := by kernel_rfl
-- 168: tuple
@[simp] theorem sz168 : szP Try.prog 168 = some 1 := by kernel_rfl
@[simp] theorem agg168 : aggP Try.prog 168 = some false := by kernel_rfl
@[simp] theorem str168 : strP Try.prog 168 = false := by kernel_rfl
@[simp] theorem conc168 : Try.prog.concrete 168 = true := by kernel_rfl
@[simp] theorem bytes168 : bytesP Try.prog 168 = some 0 := by kernel_rfl
-- 169: func zero ?Go.Value.nilFunc
@[simp] theorem sz169 : szP Try.prog 169 = some 1 := by kernel_rfl
@[simp] theorem agg169 : aggP Try.prog 169 = some false := by kernel_rfl
@[simp] theorem str169 : strP Try.prog 169 = false := by kernel_rfl
@[simp] theorem conc169 : Try.prog.concrete 169 = true := by kernel_rfl
@[simp] theorem bytes169 : bytesP Try.prog 169 = some 8 := by kernel_rfl
-- 170: struct 0:17 1:17 2:17 3:9
@[simp] theorem sz170 : szP Try.prog 170 = some 4 := by kernel_rfl
@[simp] theorem agg170 : aggP Try.prog 170 = some true := by kernel_rfl
@[simp] theorem str170 : strP Try.prog 170 = false := by kernel_rfl
@[simp] theorem conc170 : Try.prog.concrete 170 = true := by kernel_rfl
@[simp] theorem bytes170 : bytesP Try.prog 170 = some 40 := by kernel_rfl
@[simp] theorem zero170 : zeroP Try.prog 170 = some [(.pointer none), (.pointer none), (.pointer none), (.string ⟨#[]⟩)] := by kernel_rfl
@[simp] theorem field170_0 : fieldP Try.prog 170 0 = some (0, 17) := by kernel_rfl
@[simp] theorem field170_1 : fieldP Try.prog 170 1 = some (1, 17) := by kernel_rfl
@[simp] theorem field170_2 : fieldP Try.prog 170 2 = some (2, 17) := by kernel_rfl
@[simp] theorem field170_3 : fieldP Try.prog 170 3 = some (3, 9) := by kernel_rfl
-- 171: struct 0:17 1:17 2:17 3:9
@[simp] theorem sz171 : szP Try.prog 171 = some 4 := by kernel_rfl
@[simp] theorem agg171 : aggP Try.prog 171 = some true := by kernel_rfl
@[simp] theorem str171 : strP Try.prog 171 = false := by kernel_rfl
@[simp] theorem conc171 : Try.prog.concrete 171 = true := by kernel_rfl
@[simp] theorem bytes171 : bytesP Try.prog 171 = some 40 := by kernel_rfl
@[simp] theorem zero171 : zeroP Try.prog 171 = some [(.pointer none), (.pointer none), (.pointer none), (.string ⟨#[]⟩)] := by kernel_rfl
@[simp] theorem field171_0 : fieldP Try.prog 171 0 = some (0, 17) := by kernel_rfl
@[simp] theorem field171_1 : fieldP Try.prog 171 1 = some (1, 17) := by kernel_rfl
@[simp] theorem field171_2 : fieldP Try.prog 171 2 = some (2, 17) := by kernel_rfl
@[simp] theorem field171_3 : fieldP Try.prog 171 3 = some (3, 9) := by kernel_rfl
-- 172: array 0 16
@[simp] theorem sz172 : szP Try.prog 172 = some 0 := by kernel_rfl
@[simp] theorem agg172 : aggP Try.prog 172 = some true := by kernel_rfl
@[simp] theorem arr172 : arrP Try.prog 172 = some (0, 16) := by kernel_rfl
@[simp] theorem str172 : strP Try.prog 172 = false := by kernel_rfl
@[simp] theorem conc172 : Try.prog.concrete 172 = true := by kernel_rfl
@[simp] theorem bytes172 : bytesP Try.prog 172 = some 0 := by kernel_rfl
@[simp] theorem zero172 : zeroP Try.prog 172 = some [] := by kernel_rfl
-- 173: struct 0:172
@[simp] theorem sz173 : szP Try.prog 173 = some 0 := by kernel_rfl
@[simp] theorem agg173 : aggP Try.prog 173 = some true := by kernel_rfl
@[simp] theorem str173 : strP Try.prog 173 = false := by kernel_rfl
@[simp] theorem conc173 : Try.prog.concrete 173 = true := by kernel_rfl
@[simp] theorem bytes173 : bytesP Try.prog 173 = some 0 := by kernel_rfl
@[simp] theorem zero173 : zeroP Try.prog 173 = some [] := by kernel_rfl
@[simp] theorem field173_0 : fieldP Try.prog 173 0 = some (0, 172) := by kernel_rfl
-- 174: struct 0:172
@[simp] theorem sz174 : szP Try.prog 174 = some 0 := by kernel_rfl
@[simp] theorem agg174 : aggP Try.prog 174 = some true := by kernel_rfl
@[simp] theorem str174 : strP Try.prog 174 = false := by kernel_rfl
@[simp] theorem conc174 : Try.prog.concrete 174 = true := by kernel_rfl
@[simp] theorem bytes174 : bytesP Try.prog 174 = some 0 := by kernel_rfl
@[simp] theorem zero174 : zeroP Try.prog 174 = some [] := by kernel_rfl
@[simp] theorem field174_0 : fieldP Try.prog 174 0 = some (0, 172) := by kernel_rfl
-- 175: int u8
@[simp] theorem sz175 : szP Try.prog 175 = some 1 := by kernel_rfl
@[simp] theorem agg175 : aggP Try.prog 175 = some false := by kernel_rfl
@[simp] theorem int175 : intP Try.prog 175 = some .u8 := by kernel_rfl
@[simp] theorem str175 : strP Try.prog 175 = false := by kernel_rfl
@[simp] theorem und175 : (Program.underlying Try.prog 175).isSome = true := by kernel_rfl
@[simp] theorem conc175 : Try.prog.concrete 175 = true := by kernel_rfl
@[simp] theorem bytes175 : bytesP Try.prog 175 = some 1 := by kernel_rfl
@[simp] theorem zero175 : zeroP Try.prog 175 = some [(.int .u8 0)] := by kernel_rfl
-- 176: int u8
@[simp] theorem sz176 : szP Try.prog 176 = some 1 := by kernel_rfl
@[simp] theorem agg176 : aggP Try.prog 176 = some false := by kernel_rfl
@[simp] theorem int176 : intP Try.prog 176 = some .u8 := by kernel_rfl
@[simp] theorem str176 : strP Try.prog 176 = false := by kernel_rfl
@[simp] theorem und176 : (Program.underlying Try.prog 176).isSome = true := by kernel_rfl
@[simp] theorem conc176 : Try.prog.concrete 176 = true := by kernel_rfl
@[simp] theorem bytes176 : bytesP Try.prog 176 = some 1 := by kernel_rfl
@[simp] theorem zero176 : zeroP Try.prog 176 = some [(.int .u8 0)] := by kernel_rfl
-- 177: func zero ?Go.Value.nilFunc
@[simp] theorem sz177 : szP Try.prog 177 = some 1 := by kernel_rfl
@[simp] theorem agg177 : aggP Try.prog 177 = some false := by kernel_rfl
@[simp] theorem str177 : strP Try.prog 177 = false := by kernel_rfl
@[simp] theorem conc177 : Try.prog.concrete 177 = true := by kernel_rfl
@[simp] theorem bytes177 : bytesP Try.prog 177 = some 8 := by kernel_rfl
-- 178: pointer
@[simp] theorem sz178 : szP Try.prog 178 = some 1 := by kernel_rfl
@[simp] theorem agg178 : aggP Try.prog 178 = some false := by kernel_rfl
@[simp] theorem str178 : strP Try.prog 178 = false := by kernel_rfl
@[simp] theorem conc178 : Try.prog.concrete 178 = true := by kernel_rfl
@[simp] theorem bytes178 : bytesP Try.prog 178 = some 8 := by kernel_rfl
@[simp] theorem zero178 : zeroP Try.prog 178 = some [(.pointer none)] := by kernel_rfl
-- 179: int i32
@[simp] theorem sz179 : szP Try.prog 179 = some 1 := by kernel_rfl
@[simp] theorem agg179 : aggP Try.prog 179 = some false := by kernel_rfl
@[simp] theorem int179 : intP Try.prog 179 = some .i32 := by kernel_rfl
@[simp] theorem str179 : strP Try.prog 179 = false := by kernel_rfl
@[simp] theorem und179 : (Program.underlying Try.prog 179).isSome = true := by kernel_rfl
@[simp] theorem conc179 : Try.prog.concrete 179 = true := by kernel_rfl
@[simp] theorem bytes179 : bytesP Try.prog 179 = some 4 := by kernel_rfl
@[simp] theorem zero179 : zeroP Try.prog 179 = some [(.int .i32 0)] := by kernel_rfl
-- 180: int i32
@[simp] theorem sz180 : szP Try.prog 180 = some 1 := by kernel_rfl
@[simp] theorem agg180 : aggP Try.prog 180 = some false := by kernel_rfl
@[simp] theorem int180 : intP Try.prog 180 = some .i32 := by kernel_rfl
@[simp] theorem str180 : strP Try.prog 180 = false := by kernel_rfl
@[simp] theorem und180 : (Program.underlying Try.prog 180).isSome = true := by kernel_rfl
@[simp] theorem conc180 : Try.prog.concrete 180 = true := by kernel_rfl
@[simp] theorem bytes180 : bytesP Try.prog 180 = some 4 := by kernel_rfl
@[simp] theorem zero180 : zeroP Try.prog 180 = some [(.int .i32 0)] := by kernel_rfl
-- 181: struct zero (.int .u64 0), (.int .u64 0), (.int .u32 0), (.int .u8 0), (.int .u8 0), (.int .u8 0), (.int .u8 0), ?Go.Value.nilFunc, (.pointer none), (.int .i32 0), (.int .i32 0) 0:12 1:12 2:148 3:175 4:5 5:5 6:176 7:177 8:178 9:179 10:180
@[simp] theorem sz181 : szP Try.prog 181 = some 11 := by kernel_rfl
@[simp] theorem agg181 : aggP Try.prog 181 = some true := by kernel_rfl
@[simp] theorem str181 : strP Try.prog 181 = false := by kernel_rfl
@[simp] theorem conc181 : Try.prog.concrete 181 = true := by kernel_rfl
@[simp] theorem bytes181 : bytesP Try.prog 181 = some 48 := by kernel_rfl
@[simp] theorem field181_0 : fieldP Try.prog 181 0 = some (0, 12) := by kernel_rfl
@[simp] theorem field181_1 : fieldP Try.prog 181 1 = some (1, 12) := by kernel_rfl
@[simp] theorem field181_2 : fieldP Try.prog 181 2 = some (2, 148) := by kernel_rfl
@[simp] theorem field181_3 : fieldP Try.prog 181 3 = some (3, 175) := by kernel_rfl
@[simp] theorem field181_4 : fieldP Try.prog 181 4 = some (4, 5) := by kernel_rfl
@[simp] theorem field181_5 : fieldP Try.prog 181 5 = some (5, 5) := by kernel_rfl
@[simp] theorem field181_6 : fieldP Try.prog 181 6 = some (6, 176) := by kernel_rfl
@[simp] theorem field181_7 : fieldP Try.prog 181 7 = some (7, 177) := by kernel_rfl
@[simp] theorem field181_8 : fieldP Try.prog 181 8 = some (8, 178) := by kernel_rfl
@[simp] theorem field181_9 : fieldP Try.prog 181 9 = some (9, 179) := by kernel_rfl
@[simp] theorem field181_10 : fieldP Try.prog 181 10 = some (10, 180) := by kernel_rfl
-- 182: struct zero (.int .u64 0), (.int .u64 0), (.int .u32 0), (.int .u8 0), (.int .u8 0), (.int .u8 0), (.int .u8 0), ?Go.Value.nilFunc, (.pointer none), (.int .i32 0), (.int .i32 0) 0:12 1:12 2:148 3:175 4:5 5:5 6:176 7:177 8:178 9:179 10:180
@[simp] theorem sz182 : szP Try.prog 182 = some 11 := by kernel_rfl
@[simp] theorem agg182 : aggP Try.prog 182 = some true := by kernel_rfl
@[simp] theorem str182 : strP Try.prog 182 = false := by kernel_rfl
@[simp] theorem conc182 : Try.prog.concrete 182 = true := by kernel_rfl
@[simp] theorem bytes182 : bytesP Try.prog 182 = some 48 := by kernel_rfl
@[simp] theorem field182_0 : fieldP Try.prog 182 0 = some (0, 12) := by kernel_rfl
@[simp] theorem field182_1 : fieldP Try.prog 182 1 = some (1, 12) := by kernel_rfl
@[simp] theorem field182_2 : fieldP Try.prog 182 2 = some (2, 148) := by kernel_rfl
@[simp] theorem field182_3 : fieldP Try.prog 182 3 = some (3, 175) := by kernel_rfl
@[simp] theorem field182_4 : fieldP Try.prog 182 4 = some (4, 5) := by kernel_rfl
@[simp] theorem field182_5 : fieldP Try.prog 182 5 = some (5, 5) := by kernel_rfl
@[simp] theorem field182_6 : fieldP Try.prog 182 6 = some (6, 176) := by kernel_rfl
@[simp] theorem field182_7 : fieldP Try.prog 182 7 = some (7, 177) := by kernel_rfl
@[simp] theorem field182_8 : fieldP Try.prog 182 8 = some (8, 178) := by kernel_rfl
@[simp] theorem field182_9 : fieldP Try.prog 182 9 = some (9, 179) := by kernel_rfl
@[simp] theorem field182_10 : fieldP Try.prog 182 10 = some (10, 180) := by kernel_rfl
-- 183: rawPointer
@[simp] theorem sz183 : szP Try.prog 183 = some 1 := by kernel_rfl
@[simp] theorem agg183 : aggP Try.prog 183 = some false := by kernel_rfl
@[simp] theorem str183 : strP Try.prog 183 = false := by kernel_rfl
@[simp] theorem conc183 : Try.prog.concrete 183 = true := by kernel_rfl
@[simp] theorem bytes183 : bytesP Try.prog 183 = some 8 := by kernel_rfl
@[simp] theorem zero183 : zeroP Try.prog 183 = some [(.pointer none)] := by kernel_rfl
theorem mixed : Try.prog.follows .mixedOrders = true := by kernel_rfl
end Go.Fw
