/- The types of this program, as the walk asks for them. Printed by a program (wip/gen/Gen.lean). -/
import Derived.Test.YtjgbikhnnkigpaaFw2
import Derived.Test.YtjgbikhnnkigpaaRows
set_option linter.unusedSimpArgs false
set_option linter.unusedVariables false
namespace Go.Fw
open Go Go.Proofs
@[simp] theorem sz0 : szP Try.prog 0 = some 1 := by kernel_rfl
@[simp] theorem agg0 : aggP Try.prog 0 = some false := by kernel_rfl
@[simp] theorem conc0 : Try.prog.concrete 0 = true := by kernel_rfl
@[simp] theorem bytes0 : bytesP Try.prog 0 = some 0 := by kernel_rfl
@[simp] theorem sz1 : szP Try.prog 1 = some 1 := by kernel_rfl
@[simp] theorem agg1 : aggP Try.prog 1 = some false := by kernel_rfl
@[simp] theorem conc1 : Try.prog.concrete 1 = true := by kernel_rfl
@[simp] theorem bytes1 : bytesP Try.prog 1 = some 8 := by kernel_rfl
@[simp] theorem sz2 : szP Try.prog 2 = some 1 := by kernel_rfl
@[simp] theorem agg2 : aggP Try.prog 2 = some false := by kernel_rfl
@[simp] theorem int2 : intP Try.prog 2 = some .i64 := by kernel_rfl
@[simp] theorem str2 : strP Try.prog 2 = false := by kernel_rfl
@[simp] theorem und2 : (Program.underlying Try.prog 2).isSome = true := by kernel_rfl
@[simp] theorem conc2 : Try.prog.concrete 2 = true := by kernel_rfl
@[simp] theorem bytes2 : bytesP Try.prog 2 = some 8 := by kernel_rfl
@[simp] theorem zero2 : zeroP Try.prog 2 = some [(.int .i64 0)] := by kernel_rfl
@[simp] theorem sz3 : szP Try.prog 3 = some 1 := by kernel_rfl
@[simp] theorem agg3 : aggP Try.prog 3 = some false := by kernel_rfl
@[simp] theorem int3 : intP Try.prog 3 = some .i64 := by kernel_rfl
@[simp] theorem str3 : strP Try.prog 3 = false := by kernel_rfl
@[simp] theorem und3 : (Program.underlying Try.prog 3).isSome = true := by kernel_rfl
@[simp] theorem conc3 : Try.prog.concrete 3 = true := by kernel_rfl
@[simp] theorem bytes3 : bytesP Try.prog 3 = some 8 := by kernel_rfl
@[simp] theorem zero3 : zeroP Try.prog 3 = some [(.int .i64 0)] := by kernel_rfl
@[simp] theorem sz4 : szP Try.prog 4 = some 1 := by kernel_rfl
@[simp] theorem agg4 : aggP Try.prog 4 = some false := by kernel_rfl
@[simp] theorem str4 : strP Try.prog 4 = false := by kernel_rfl
@[simp] theorem bool4 : boolP Try.prog 4 = true := by kernel_rfl
@[simp] theorem conc4 : Try.prog.concrete 4 = true := by kernel_rfl
@[simp] theorem bytes4 : bytesP Try.prog 4 = some 1 := by kernel_rfl
@[simp] theorem zero4 : zeroP Try.prog 4 = some [(.bool false)] := by kernel_rfl
@[simp] theorem sz5 : szP Try.prog 5 = some 1 := by kernel_rfl
@[simp] theorem agg5 : aggP Try.prog 5 = some false := by kernel_rfl
@[simp] theorem int5 : intP Try.prog 5 = some .u8 := by kernel_rfl
@[simp] theorem str5 : strP Try.prog 5 = false := by kernel_rfl
@[simp] theorem und5 : (Program.underlying Try.prog 5).isSome = true := by kernel_rfl
@[simp] theorem conc5 : Try.prog.concrete 5 = true := by kernel_rfl
@[simp] theorem bytes5 : bytesP Try.prog 5 = some 1 := by kernel_rfl
@[simp] theorem zero5 : zeroP Try.prog 5 = some [(.int .u8 0)] := by kernel_rfl
@[simp] theorem sz9 : szP Try.prog 9 = some 1 := by kernel_rfl
@[simp] theorem agg9 : aggP Try.prog 9 = some false := by kernel_rfl
@[simp] theorem elem9 : elemP Try.prog 9 = none := by kernel_rfl
@[simp] theorem str9 : strP Try.prog 9 = true := by kernel_rfl
@[simp] theorem und9 : (Program.underlying Try.prog 9).isSome = true := by kernel_rfl
@[simp] theorem conc9 : Try.prog.concrete 9 = true := by kernel_rfl
@[simp] theorem bytes9 : bytesP Try.prog 9 = some 16 := by kernel_rfl
@[simp] theorem zero9 : zeroP Try.prog 9 = some [(.string ⟨#[]⟩)] := by kernel_rfl
@[simp] theorem sz20 : szP Try.prog 20 = some 1 := by kernel_rfl
@[simp] theorem agg20 : aggP Try.prog 20 = some false := by kernel_rfl
@[simp] theorem bytes20 : bytesP Try.prog 20 = some 16 := by kernel_rfl
@[simp] theorem zero20 : zeroP Try.prog 20 = some [.nilIface] := by kernel_rfl
@[simp] theorem sz21 : szP Try.prog 21 = some 1 := by kernel_rfl
@[simp] theorem agg21 : aggP Try.prog 21 = some false := by kernel_rfl
@[simp] theorem int21 : intP Try.prog 21 = some .i32 := by kernel_rfl
@[simp] theorem str21 : strP Try.prog 21 = false := by kernel_rfl
@[simp] theorem und21 : (Program.underlying Try.prog 21).isSome = true := by kernel_rfl
@[simp] theorem conc21 : Try.prog.concrete 21 = true := by kernel_rfl
@[simp] theorem bytes21 : bytesP Try.prog 21 = some 4 := by kernel_rfl
@[simp] theorem zero21 : zeroP Try.prog 21 = some [(.int .i32 0)] := by kernel_rfl
@[simp] theorem sz22 : szP Try.prog 22 = some 1 := by kernel_rfl
@[simp] theorem agg22 : aggP Try.prog 22 = some false := by kernel_rfl
@[simp] theorem elem22 : elemP Try.prog 22 = some 5 := by kernel_rfl
@[simp] theorem str22 : strP Try.prog 22 = false := by kernel_rfl
@[simp] theorem und22 : (Program.underlying Try.prog 22).isSome = true := by kernel_rfl
@[simp] theorem conc22 : Try.prog.concrete 22 = true := by kernel_rfl
@[simp] theorem bytes22 : bytesP Try.prog 22 = some 24 := by kernel_rfl
@[simp] theorem zero22 : zeroP Try.prog 22 = some [(.slice none 0 0)] := by kernel_rfl
@[simp] theorem sz24 : szP Try.prog 24 = some 3 := by kernel_rfl
@[simp] theorem agg24 : aggP Try.prog 24 = some true := by kernel_rfl
@[simp] theorem str24 : strP Try.prog 24 = false := by kernel_rfl
@[simp] theorem conc24 : Try.prog.concrete 24 = true := by kernel_rfl
@[simp] theorem bytes24 : bytesP Try.prog 24 = some 32 := by kernel_rfl
@[simp] theorem zero24 : zeroP Try.prog 24 = some [(.int .u8 0), (.int .u8 0), (.slice none 0 0)] := by kernel_rfl
@[simp] theorem field24_0 : fieldP Try.prog 24 0 = some (0, 5) := by kernel_rfl
@[simp] theorem field24_1 : fieldP Try.prog 24 1 = some (1, 5) := by kernel_rfl
@[simp] theorem field24_2 : fieldP Try.prog 24 2 = some (2, 22) := by kernel_rfl
@[simp] theorem sz28 : szP Try.prog 28 = some 1 := by kernel_rfl
@[simp] theorem agg28 : aggP Try.prog 28 = some false := by kernel_rfl
@[simp] theorem elem28 : elemP Try.prog 28 = some 24 := by kernel_rfl
@[simp] theorem str28 : strP Try.prog 28 = false := by kernel_rfl
@[simp] theorem und28 : (Program.underlying Try.prog 28).isSome = true := by kernel_rfl
@[simp] theorem conc28 : Try.prog.concrete 28 = true := by kernel_rfl
@[simp] theorem bytes28 : bytesP Try.prog 28 = some 24 := by kernel_rfl
@[simp] theorem zero28 : zeroP Try.prog 28 = some [(.slice none 0 0)] := by kernel_rfl
@[simp] theorem sz29 : szP Try.prog 29 = some 1 := by kernel_rfl
@[simp] theorem agg29 : aggP Try.prog 29 = some false := by kernel_rfl
@[simp] theorem int29 : intP Try.prog 29 = some .i64 := by kernel_rfl
@[simp] theorem str29 : strP Try.prog 29 = false := by kernel_rfl
@[simp] theorem und29 : (Program.underlying Try.prog 29).isSome = true := by kernel_rfl
@[simp] theorem conc29 : Try.prog.concrete 29 = true := by kernel_rfl
@[simp] theorem bytes29 : bytesP Try.prog 29 = some 8 := by kernel_rfl
@[simp] theorem zero29 : zeroP Try.prog 29 = some [(.int .i64 0)] := by kernel_rfl
@[simp] theorem sz30 : szP Try.prog 30 = some 1 := by kernel_rfl
@[simp] theorem agg30 : aggP Try.prog 30 = some false := by kernel_rfl
@[simp] theorem conc30 : Try.prog.concrete 30 = true := by kernel_rfl
@[simp] theorem bytes30 : bytesP Try.prog 30 = some 0 := by kernel_rfl
@[simp] theorem sz32 : szP Try.prog 32 = some 1 := by kernel_rfl
@[simp] theorem agg32 : aggP Try.prog 32 = some false := by kernel_rfl
@[simp] theorem conc32 : Try.prog.concrete 32 = true := by kernel_rfl
@[simp] theorem bytes32 : bytesP Try.prog 32 = some 0 := by kernel_rfl
@[simp] theorem sz39 : szP Try.prog 39 = some 1 := by kernel_rfl
@[simp] theorem agg39 : aggP Try.prog 39 = some false := by kernel_rfl
@[simp] theorem conc39 : Try.prog.concrete 39 = true := by kernel_rfl
@[simp] theorem bytes39 : bytesP Try.prog 39 = some 0 := by kernel_rfl
@[simp] theorem sz41 : szP Try.prog 41 = some 1 := by kernel_rfl
@[simp] theorem agg41 : aggP Try.prog 41 = some false := by kernel_rfl
@[simp] theorem conc41 : Try.prog.concrete 41 = true := by kernel_rfl
@[simp] theorem bytes41 : bytesP Try.prog 41 = some 0 := by kernel_rfl
@[simp] theorem sz43 : szP Try.prog 43 = some 1 := by kernel_rfl
@[simp] theorem agg43 : aggP Try.prog 43 = some false := by kernel_rfl
@[simp] theorem conc43 : Try.prog.concrete 43 = true := by kernel_rfl
@[simp] theorem bytes43 : bytesP Try.prog 43 = some 0 := by kernel_rfl
@[simp] theorem sz46 : szP Try.prog 46 = some 1 := by kernel_rfl
@[simp] theorem agg46 : aggP Try.prog 46 = some false := by kernel_rfl
@[simp] theorem int46 : intP Try.prog 46 = some .u64 := by kernel_rfl
@[simp] theorem str46 : strP Try.prog 46 = false := by kernel_rfl
@[simp] theorem und46 : (Program.underlying Try.prog 46).isSome = true := by kernel_rfl
@[simp] theorem conc46 : Try.prog.concrete 46 = true := by kernel_rfl
@[simp] theorem bytes46 : bytesP Try.prog 46 = some 8 := by kernel_rfl
@[simp] theorem zero46 : zeroP Try.prog 46 = some [(.int .u64 0)] := by kernel_rfl
@[simp] theorem sz48 : szP Try.prog 48 = some 1 := by kernel_rfl
@[simp] theorem agg48 : aggP Try.prog 48 = some false := by kernel_rfl
@[simp] theorem elem48 : elemP Try.prog 48 = some 3 := by kernel_rfl
@[simp] theorem str48 : strP Try.prog 48 = false := by kernel_rfl
@[simp] theorem und48 : (Program.underlying Try.prog 48).isSome = true := by kernel_rfl
@[simp] theorem conc48 : Try.prog.concrete 48 = true := by kernel_rfl
@[simp] theorem bytes48 : bytesP Try.prog 48 = some 24 := by kernel_rfl
@[simp] theorem zero48 : zeroP Try.prog 48 = some [(.slice none 0 0)] := by kernel_rfl
@[simp] theorem sz49 : szP Try.prog 49 = some 1 := by kernel_rfl
@[simp] theorem agg49 : aggP Try.prog 49 = some false := by kernel_rfl
@[simp] theorem conc49 : Try.prog.concrete 49 = true := by kernel_rfl
@[simp] theorem bytes49 : bytesP Try.prog 49 = some 0 := by kernel_rfl
@[simp] theorem sz51 : szP Try.prog 51 = some 1 := by kernel_rfl
@[simp] theorem agg51 : aggP Try.prog 51 = some false := by kernel_rfl
@[simp] theorem conc51 : Try.prog.concrete 51 = true := by kernel_rfl
@[simp] theorem bytes51 : bytesP Try.prog 51 = some 0 := by kernel_rfl
@[simp] theorem sz56 : szP Try.prog 56 = some 1 := by kernel_rfl
@[simp] theorem agg56 : aggP Try.prog 56 = some false := by kernel_rfl
@[simp] theorem elem56 : elemP Try.prog 56 = some 72 := by kernel_rfl
@[simp] theorem str56 : strP Try.prog 56 = false := by kernel_rfl
@[simp] theorem und56 : (Program.underlying Try.prog 56).isSome = true := by kernel_rfl
@[simp] theorem conc56 : Try.prog.concrete 56 = true := by kernel_rfl
@[simp] theorem bytes56 : bytesP Try.prog 56 = some 24 := by kernel_rfl
@[simp] theorem zero56 : zeroP Try.prog 56 = some [(.slice none 0 0)] := by kernel_rfl
@[simp] theorem sz58 : szP Try.prog 58 = some 2 := by kernel_rfl
@[simp] theorem agg58 : aggP Try.prog 58 = some true := by kernel_rfl
@[simp] theorem str58 : strP Try.prog 58 = false := by kernel_rfl
@[simp] theorem conc58 : Try.prog.concrete 58 = true := by kernel_rfl
@[simp] theorem bytes58 : bytesP Try.prog 58 = some 48 := by kernel_rfl
@[simp] theorem zero58 : zeroP Try.prog 58 = some [(.slice none 0 0), (.slice none 0 0)] := by kernel_rfl
@[simp] theorem field58_0 : fieldP Try.prog 58 0 = some (0, 28) := by kernel_rfl
@[simp] theorem field58_1 : fieldP Try.prog 58 1 = some (1, 56) := by kernel_rfl
@[simp] theorem sz59 : szP Try.prog 59 = some 1 := by kernel_rfl
@[simp] theorem agg59 : aggP Try.prog 59 = some false := by kernel_rfl
@[simp] theorem conc59 : Try.prog.concrete 59 = true := by kernel_rfl
@[simp] theorem bytes59 : bytesP Try.prog 59 = some 0 := by kernel_rfl
@[simp] theorem sz61 : szP Try.prog 61 = some 1 := by kernel_rfl
@[simp] theorem agg61 : aggP Try.prog 61 = some false := by kernel_rfl
@[simp] theorem conc61 : Try.prog.concrete 61 = true := by kernel_rfl
@[simp] theorem bytes61 : bytesP Try.prog 61 = some 0 := by kernel_rfl
@[simp] theorem sz70 : szP Try.prog 70 = some 1 := by kernel_rfl
@[simp] theorem agg70 : aggP Try.prog 70 = some false := by kernel_rfl
@[simp] theorem elem70 : elemP Try.prog 70 = some 77 := by kernel_rfl
@[simp] theorem str70 : strP Try.prog 70 = false := by kernel_rfl
@[simp] theorem und70 : (Program.underlying Try.prog 70).isSome = true := by kernel_rfl
@[simp] theorem conc70 : Try.prog.concrete 70 = true := by kernel_rfl
@[simp] theorem bytes70 : bytesP Try.prog 70 = some 24 := by kernel_rfl
@[simp] theorem zero70 : zeroP Try.prog 70 = some [(.slice none 0 0)] := by kernel_rfl
@[simp] theorem sz72 : szP Try.prog 72 = some 2 := by kernel_rfl
@[simp] theorem agg72 : aggP Try.prog 72 = some true := by kernel_rfl
@[simp] theorem str72 : strP Try.prog 72 = false := by kernel_rfl
@[simp] theorem conc72 : Try.prog.concrete 72 = true := by kernel_rfl
@[simp] theorem bytes72 : bytesP Try.prog 72 = some 48 := by kernel_rfl
@[simp] theorem zero72 : zeroP Try.prog 72 = some [(.slice none 0 0), (.slice none 0 0)] := by kernel_rfl
@[simp] theorem field72_0 : fieldP Try.prog 72 0 = some (0, 28) := by kernel_rfl
@[simp] theorem field72_1 : fieldP Try.prog 72 1 = some (1, 70) := by kernel_rfl
@[simp] theorem sz74 : szP Try.prog 74 = some 1 := by kernel_rfl
@[simp] theorem agg74 : aggP Try.prog 74 = some false := by kernel_rfl
@[simp] theorem conc74 : Try.prog.concrete 74 = true := by kernel_rfl
@[simp] theorem bytes74 : bytesP Try.prog 74 = some 0 := by kernel_rfl
@[simp] theorem sz77 : szP Try.prog 77 = some 2 := by kernel_rfl
@[simp] theorem agg77 : aggP Try.prog 77 = some true := by kernel_rfl
@[simp] theorem str77 : strP Try.prog 77 = false := by kernel_rfl
@[simp] theorem conc77 : Try.prog.concrete 77 = true := by kernel_rfl
@[simp] theorem bytes77 : bytesP Try.prog 77 = some 48 := by kernel_rfl
@[simp] theorem zero77 : zeroP Try.prog 77 = some [(.slice none 0 0), (.slice none 0 0)] := by kernel_rfl
@[simp] theorem field77_0 : fieldP Try.prog 77 0 = some (0, 28) := by kernel_rfl
@[simp] theorem field77_1 : fieldP Try.prog 77 1 = some (1, 28) := by kernel_rfl
@[simp] theorem sz81 : szP Try.prog 81 = some 4 := by kernel_rfl
@[simp] theorem agg81 : aggP Try.prog 81 = some true := by kernel_rfl
@[simp] theorem str81 : strP Try.prog 81 = false := by kernel_rfl
@[simp] theorem conc81 : Try.prog.concrete 81 = true := by kernel_rfl
@[simp] theorem bytes81 : bytesP Try.prog 81 = some 32 := by kernel_rfl
@[simp] theorem zero81 : zeroP Try.prog 81 = some [(.int .u8 0), (.int .i64 0), (.int .i64 0), (.int .i64 0)] := by kernel_rfl
@[simp] theorem field81_0 : fieldP Try.prog 81 0 = some (0, 5) := by kernel_rfl
@[simp] theorem field81_1 : fieldP Try.prog 81 1 = some (1, 3) := by kernel_rfl
@[simp] theorem field81_2 : fieldP Try.prog 81 2 = some (2, 3) := by kernel_rfl
@[simp] theorem field81_3 : fieldP Try.prog 81 3 = some (3, 3) := by kernel_rfl
@[simp] theorem sz82 : szP Try.prog 82 = some 1 := by kernel_rfl
@[simp] theorem agg82 : aggP Try.prog 82 = some false := by kernel_rfl
@[simp] theorem conc82 : Try.prog.concrete 82 = true := by kernel_rfl
@[simp] theorem bytes82 : bytesP Try.prog 82 = some 0 := by kernel_rfl
@[simp] theorem sz89 : szP Try.prog 89 = some 1 := by kernel_rfl
@[simp] theorem agg89 : aggP Try.prog 89 = some false := by kernel_rfl
@[simp] theorem int89 : intP Try.prog 89 = some .u64 := by kernel_rfl
@[simp] theorem str89 : strP Try.prog 89 = false := by kernel_rfl
@[simp] theorem und89 : (Program.underlying Try.prog 89).isSome = true := by kernel_rfl
@[simp] theorem conc89 : Try.prog.concrete 89 = true := by kernel_rfl
@[simp] theorem bytes89 : bytesP Try.prog 89 = some 8 := by kernel_rfl
@[simp] theorem zero89 : zeroP Try.prog 89 = some [(.int .u64 0)] := by kernel_rfl
@[simp] theorem sz90 : szP Try.prog 90 = some 1 := by kernel_rfl
@[simp] theorem agg90 : aggP Try.prog 90 = some false := by kernel_rfl
@[simp] theorem conc90 : Try.prog.concrete 90 = true := by kernel_rfl
@[simp] theorem bytes90 : bytesP Try.prog 90 = some 8 := by kernel_rfl
@[simp] theorem sz91 : szP Try.prog 91 = some 1 := by kernel_rfl
@[simp] theorem agg91 : aggP Try.prog 91 = some false := by kernel_rfl
@[simp] theorem conc91 : Try.prog.concrete 91 = true := by kernel_rfl
@[simp] theorem bytes91 : bytesP Try.prog 91 = some 0 := by kernel_rfl
@[simp] theorem sz92 : szP Try.prog 92 = some 1 := by kernel_rfl
@[simp] theorem agg92 : aggP Try.prog 92 = some false := by kernel_rfl
@[simp] theorem int92 : intP Try.prog 92 = some .i16 := by kernel_rfl
@[simp] theorem str92 : strP Try.prog 92 = false := by kernel_rfl
@[simp] theorem und92 : (Program.underlying Try.prog 92).isSome = true := by kernel_rfl
@[simp] theorem conc92 : Try.prog.concrete 92 = true := by kernel_rfl
@[simp] theorem bytes92 : bytesP Try.prog 92 = some 2 := by kernel_rfl
@[simp] theorem zero92 : zeroP Try.prog 92 = some [(.int .i16 0)] := by kernel_rfl
@[simp] theorem sz93 : szP Try.prog 93 = some 1 := by kernel_rfl
@[simp] theorem agg93 : aggP Try.prog 93 = some false := by kernel_rfl
@[simp] theorem int93 : intP Try.prog 93 = some .u16 := by kernel_rfl
@[simp] theorem str93 : strP Try.prog 93 = false := by kernel_rfl
@[simp] theorem und93 : (Program.underlying Try.prog 93).isSome = true := by kernel_rfl
@[simp] theorem conc93 : Try.prog.concrete 93 = true := by kernel_rfl
@[simp] theorem bytes93 : bytesP Try.prog 93 = some 2 := by kernel_rfl
@[simp] theorem zero93 : zeroP Try.prog 93 = some [(.int .u16 0)] := by kernel_rfl
@[simp] theorem sz95 : szP Try.prog 95 = some 1 := by kernel_rfl
@[simp] theorem agg95 : aggP Try.prog 95 = some false := by kernel_rfl
@[simp] theorem int95 : intP Try.prog 95 = some .u32 := by kernel_rfl
@[simp] theorem str95 : strP Try.prog 95 = false := by kernel_rfl
@[simp] theorem und95 : (Program.underlying Try.prog 95).isSome = true := by kernel_rfl
@[simp] theorem conc95 : Try.prog.concrete 95 = true := by kernel_rfl
@[simp] theorem bytes95 : bytesP Try.prog 95 = some 4 := by kernel_rfl
@[simp] theorem zero95 : zeroP Try.prog 95 = some [(.int .u32 0)] := by kernel_rfl
@[simp] theorem sz96 : szP Try.prog 96 = some 1 := by kernel_rfl
@[simp] theorem agg96 : aggP Try.prog 96 = some false := by kernel_rfl
@[simp] theorem conc96 : Try.prog.concrete 96 = true := by kernel_rfl
@[simp] theorem bytes96 : bytesP Try.prog 96 = some 0 := by kernel_rfl
@[simp] theorem sz98 : szP Try.prog 98 = some 1 := by kernel_rfl
@[simp] theorem agg98 : aggP Try.prog 98 = some false := by kernel_rfl
@[simp] theorem conc98 : Try.prog.concrete 98 = true := by kernel_rfl
@[simp] theorem bytes98 : bytesP Try.prog 98 = some 0 := by kernel_rfl
@[simp] theorem sz104 : szP Try.prog 104 = some 0 := by kernel_rfl
@[simp] theorem agg104 : aggP Try.prog 104 = some true := by kernel_rfl
@[simp] theorem str104 : strP Try.prog 104 = false := by kernel_rfl
@[simp] theorem conc104 : Try.prog.concrete 104 = true := by kernel_rfl
@[simp] theorem bytes104 : bytesP Try.prog 104 = some 0 := by kernel_rfl
@[simp] theorem zero104 : zeroP Try.prog 104 = some [] := by kernel_rfl
@[simp] theorem sz105 : szP Try.prog 105 = some 1 := by kernel_rfl
@[simp] theorem agg105 : aggP Try.prog 105 = some false := by kernel_rfl
@[simp] theorem conc105 : Try.prog.concrete 105 = true := by kernel_rfl
@[simp] theorem bytes105 : bytesP Try.prog 105 = some 0 := by kernel_rfl
@[simp] theorem sz106 : szP Try.prog 106 = some 1 := by kernel_rfl
@[simp] theorem agg106 : aggP Try.prog 106 = some false := by kernel_rfl
@[simp] theorem conc106 : Try.prog.concrete 106 = true := by kernel_rfl
@[simp] theorem bytes106 : bytesP Try.prog 106 = some 8 := by kernel_rfl
@[simp] theorem zero106 : zeroP Try.prog 106 = some [(.pointer none)] := by kernel_rfl
@[simp] theorem sz108 : szP Try.prog 108 = some 2 := by kernel_rfl
@[simp] theorem agg108 : aggP Try.prog 108 = some true := by kernel_rfl
@[simp] theorem str108 : strP Try.prog 108 = false := by kernel_rfl
@[simp] theorem conc108 : Try.prog.concrete 108 = true := by kernel_rfl
@[simp] theorem bytes108 : bytesP Try.prog 108 = some 32 := by kernel_rfl
@[simp] theorem zero108 : zeroP Try.prog 108 = some [(.slice none 0 0), (.int .i64 0)] := by kernel_rfl
@[simp] theorem field108_0 : fieldP Try.prog 108 0 = some (0, 28) := by kernel_rfl
@[simp] theorem field108_1 : fieldP Try.prog 108 1 = some (1, 3) := by kernel_rfl
@[simp] theorem sz110 : szP Try.prog 110 = some 2 := by kernel_rfl
@[simp] theorem agg110 : aggP Try.prog 110 = some true := by kernel_rfl
@[simp] theorem str110 : strP Try.prog 110 = false := by kernel_rfl
@[simp] theorem conc110 : Try.prog.concrete 110 = true := by kernel_rfl
@[simp] theorem bytes110 : bytesP Try.prog 110 = some 32 := by kernel_rfl
@[simp] theorem zero110 : zeroP Try.prog 110 = some [(.slice none 0 0), (.int .i64 0)] := by kernel_rfl
@[simp] theorem field110_0 : fieldP Try.prog 110 0 = some (0, 108) := by kernel_rfl
@[simp] theorem sz116 : szP Try.prog 116 = some 1 := by kernel_rfl
@[simp] theorem agg116 : aggP Try.prog 116 = some false := by kernel_rfl
@[simp] theorem conc116 : Try.prog.concrete 116 = true := by kernel_rfl
@[simp] theorem bytes116 : bytesP Try.prog 116 = some 8 := by kernel_rfl
@[simp] theorem sz117 : szP Try.prog 117 = some 1 := by kernel_rfl
@[simp] theorem agg117 : aggP Try.prog 117 = some false := by kernel_rfl
@[simp] theorem conc117 : Try.prog.concrete 117 = true := by kernel_rfl
@[simp] theorem bytes117 : bytesP Try.prog 117 = some 8 := by kernel_rfl
@[simp] theorem sz122 : szP Try.prog 122 = some 1 := by kernel_rfl
@[simp] theorem agg122 : aggP Try.prog 122 = some false := by kernel_rfl
@[simp] theorem conc122 : Try.prog.concrete 122 = true := by kernel_rfl
@[simp] theorem bytes122 : bytesP Try.prog 122 = some 8 := by kernel_rfl
@[simp] theorem zero122 : zeroP Try.prog 122 = some [(.pointer none)] := by kernel_rfl
@[simp] theorem sz124 : szP Try.prog 124 = some 1 := by kernel_rfl
@[simp] theorem agg124 : aggP Try.prog 124 = some false := by kernel_rfl
@[simp] theorem conc124 : Try.prog.concrete 124 = true := by kernel_rfl
@[simp] theorem bytes124 : bytesP Try.prog 124 = some 8 := by kernel_rfl
theorem mixed : Try.prog.follows .mixedOrders = true := by kernel_rfl
end Go.Fw
