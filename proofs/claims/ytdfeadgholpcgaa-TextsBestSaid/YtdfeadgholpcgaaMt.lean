/-
  THE FACTS ON THE PROGRAM's TYPES that the abstract walk wants: each holds by computation. Written by gen_types.py (this session's own).
-/
import Derived.Test.YtdfeadgholpcgaaMc
import Derived.Test.YtdfeadgholpcgaaProg
import Derived.KernelRfl

section
set_option linter.unusedVariables false
namespace Go.Proofs.Ytdfeadgholpcgaa.Ty
open Go.AW
theorem hm : Try.prog.follows .mixedOrders = true := by kernel_rfl
@[simp] theorem sz1 : szT Try.prog 1 = some 1 := by kernel_rfl
@[simp] theorem row1 : rowT Try.prog 1 = some false := by kernel_rfl
@[simp] theorem zero1 : zeroA Try.prog 1 = some [(.v .nilFunc)] := by kernel_rfl
@[simp] theorem nstruct1 : structA Try.prog 1 = none := by kernel_rfl
@[simp] theorem u2 : Try.prog.underlying 2 = some (.int .i64) := by kernel_rfl
@[simp] theorem sz2 : szT Try.prog 2 = some 1 := by kernel_rfl
@[simp] theorem row2 : rowT Try.prog 2 = some false := by kernel_rfl
@[simp] theorem zero2 : zeroA Try.prog 2 = some [(.v (.int .i64 0))] := by kernel_rfl
@[simp] theorem nstruct2 : structA Try.prog 2 = none := by kernel_rfl
@[simp] theorem u3 : Try.prog.underlying 3 = some (.int .i64) := by kernel_rfl
@[simp] theorem sz3 : szT Try.prog 3 = some 1 := by kernel_rfl
@[simp] theorem row3 : rowT Try.prog 3 = some false := by kernel_rfl
@[simp] theorem zero3 : zeroA Try.prog 3 = some [(.v (.int .i64 0))] := by kernel_rfl
@[simp] theorem nstruct3 : structA Try.prog 3 = none := by kernel_rfl
@[simp] theorem u4 : Try.prog.underlying 4 = some .bool := by kernel_rfl
@[simp] theorem sz4 : szT Try.prog 4 = some 1 := by kernel_rfl
@[simp] theorem row4 : rowT Try.prog 4 = some false := by kernel_rfl
@[simp] theorem zero4 : zeroA Try.prog 4 = some [(.v (.bool false))] := by kernel_rfl
@[simp] theorem nstruct4 : structA Try.prog 4 = none := by kernel_rfl
@[simp] theorem u5 : Try.prog.underlying 5 = some (.int .u8) := by kernel_rfl
@[simp] theorem sz5 : szT Try.prog 5 = some 1 := by kernel_rfl
@[simp] theorem row5 : rowT Try.prog 5 = some false := by kernel_rfl
@[simp] theorem zero5 : zeroA Try.prog 5 = some [(.v (.int .u8 0))] := by kernel_rfl
@[simp] theorem nstruct5 : structA Try.prog 5 = none := by kernel_rfl
@[simp] theorem u6 : Try.prog.underlying 6 = some (.int .u8) := by kernel_rfl
@[simp] theorem sz6 : szT Try.prog 6 = some 1 := by kernel_rfl
@[simp] theorem row6 : rowT Try.prog 6 = some false := by kernel_rfl
@[simp] theorem zero6 : zeroA Try.prog 6 = some [(.v (.int .u8 0))] := by kernel_rfl
@[simp] theorem nstruct6 : structA Try.prog 6 = none := by kernel_rfl
@[simp] theorem sz7 : szT Try.prog 7 = some 4 := by kernel_rfl
@[simp] theorem row7 : rowT Try.prog 7 = some true := by kernel_rfl
@[simp] theorem zero7 : zeroA Try.prog 7 = some [(.v (.int .i64 0)), (.v (.int .i64 0)), (.v (.bool false)), (.v (.int .u8 0))] := by kernel_rfl
@[simp] theorem struct7 : structA Try.prog 7 = some ([(0, 1), (1, 1), (2, 1), (3, 1)], [(.v (.int .i64 0)), (.v (.int .i64 0)), (.v (.bool false)), (.v (.int .u8 0))]) := by kernel_rfl
@[simp] theorem fo7_0 : fieldO Try.prog 7 0 = some 0 := by kernel_rfl
@[simp] theorem ft7_0 : fieldT Try.prog 7 0 = some 2 := by kernel_rfl
@[simp] theorem fo7_1 : fieldO Try.prog 7 1 = some 1 := by kernel_rfl
@[simp] theorem ft7_1 : fieldT Try.prog 7 1 = some 3 := by kernel_rfl
@[simp] theorem fo7_2 : fieldO Try.prog 7 2 = some 2 := by kernel_rfl
@[simp] theorem ft7_2 : fieldT Try.prog 7 2 = some 4 := by kernel_rfl
@[simp] theorem fo7_3 : fieldO Try.prog 7 3 = some 3 := by kernel_rfl
@[simp] theorem ft7_3 : fieldT Try.prog 7 3 = some 6 := by kernel_rfl
@[simp] theorem sz8 : szT Try.prog 8 = some 4 := by kernel_rfl
@[simp] theorem row8 : rowT Try.prog 8 = some true := by kernel_rfl
@[simp] theorem zero8 : zeroA Try.prog 8 = some [(.v (.int .i64 0)), (.v (.int .i64 0)), (.v (.bool false)), (.v (.int .u8 0))] := by kernel_rfl
@[simp] theorem struct8 : structA Try.prog 8 = some ([(0, 1), (1, 1), (2, 1), (3, 1)], [(.v (.int .i64 0)), (.v (.int .i64 0)), (.v (.bool false)), (.v (.int .u8 0))]) := by kernel_rfl
@[simp] theorem fo8_0 : fieldO Try.prog 8 0 = some 0 := by kernel_rfl
@[simp] theorem ft8_0 : fieldT Try.prog 8 0 = some 2 := by kernel_rfl
@[simp] theorem fo8_1 : fieldO Try.prog 8 1 = some 1 := by kernel_rfl
@[simp] theorem ft8_1 : fieldT Try.prog 8 1 = some 3 := by kernel_rfl
@[simp] theorem fo8_2 : fieldO Try.prog 8 2 = some 2 := by kernel_rfl
@[simp] theorem ft8_2 : fieldT Try.prog 8 2 = some 4 := by kernel_rfl
@[simp] theorem fo8_3 : fieldO Try.prog 8 3 = some 3 := by kernel_rfl
@[simp] theorem ft8_3 : fieldT Try.prog 8 3 = some 6 := by kernel_rfl
@[simp] theorem u9 : Try.prog.underlying 9 = some .string := by kernel_rfl
@[simp] theorem sz9 : szT Try.prog 9 = some 1 := by kernel_rfl
@[simp] theorem row9 : rowT Try.prog 9 = some false := by kernel_rfl
@[simp] theorem zero9 : zeroA Try.prog 9 = some [(.v (.string ⟨#[]⟩))] := by kernel_rfl
@[simp] theorem nstruct9 : structA Try.prog 9 = none := by kernel_rfl
@[simp] theorem u10 : Try.prog.underlying 10 = some .string := by kernel_rfl
@[simp] theorem sz10 : szT Try.prog 10 = some 1 := by kernel_rfl
@[simp] theorem row10 : rowT Try.prog 10 = some false := by kernel_rfl
@[simp] theorem zero10 : zeroA Try.prog 10 = some [(.v (.string ⟨#[]⟩))] := by kernel_rfl
@[simp] theorem nstruct10 : structA Try.prog 10 = none := by kernel_rfl
@[simp] theorem u11 : Try.prog.underlying 11 = some .string := by kernel_rfl
@[simp] theorem sz11 : szT Try.prog 11 = some 1 := by kernel_rfl
@[simp] theorem row11 : rowT Try.prog 11 = some false := by kernel_rfl
@[simp] theorem zero11 : zeroA Try.prog 11 = some [(.v (.string ⟨#[]⟩))] := by kernel_rfl
@[simp] theorem nstruct11 : structA Try.prog 11 = none := by kernel_rfl
@[simp] theorem u12 : Try.prog.underlying 12 = some (.int .u64) := by kernel_rfl
@[simp] theorem sz12 : szT Try.prog 12 = some 1 := by kernel_rfl
@[simp] theorem row12 : rowT Try.prog 12 = some false := by kernel_rfl
@[simp] theorem zero12 : zeroA Try.prog 12 = some [(.v (.int .u64 0))] := by kernel_rfl
@[simp] theorem nstruct12 : structA Try.prog 12 = none := by kernel_rfl
@[simp] theorem sz13 : szT Try.prog 13 = some 2 := by kernel_rfl
@[simp] theorem row13 : rowT Try.prog 13 = some true := by kernel_rfl
@[simp] theorem zero13 : zeroA Try.prog 13 = some [(.v (.string ⟨#[]⟩)), (.v (.int .u64 0))] := by kernel_rfl
@[simp] theorem struct13 : structA Try.prog 13 = some ([(0, 1), (1, 1)], [(.v (.string ⟨#[]⟩)), (.v (.int .u64 0))]) := by kernel_rfl
@[simp] theorem fo13_0 : fieldO Try.prog 13 0 = some 0 := by kernel_rfl
@[simp] theorem ft13_0 : fieldT Try.prog 13 0 = some 9 := by kernel_rfl
@[simp] theorem fo13_1 : fieldO Try.prog 13 1 = some 1 := by kernel_rfl
@[simp] theorem ft13_1 : fieldT Try.prog 13 1 = some 12 := by kernel_rfl
@[simp] theorem sz14 : szT Try.prog 14 = some 2 := by kernel_rfl
@[simp] theorem row14 : rowT Try.prog 14 = some true := by kernel_rfl
@[simp] theorem zero14 : zeroA Try.prog 14 = some [(.v (.string ⟨#[]⟩)), (.v (.int .u64 0))] := by kernel_rfl
@[simp] theorem struct14 : structA Try.prog 14 = some ([(0, 1), (1, 1)], [(.v (.string ⟨#[]⟩)), (.v (.int .u64 0))]) := by kernel_rfl
@[simp] theorem fo14_0 : fieldO Try.prog 14 0 = some 0 := by kernel_rfl
@[simp] theorem ft14_0 : fieldT Try.prog 14 0 = some 9 := by kernel_rfl
@[simp] theorem fo14_1 : fieldO Try.prog 14 1 = some 1 := by kernel_rfl
@[simp] theorem ft14_1 : fieldT Try.prog 14 1 = some 12 := by kernel_rfl
@[simp] theorem u15 : Try.prog.underlying 15 = some (.pointer 128) := by kernel_rfl
@[simp] theorem sz15 : szT Try.prog 15 = some 1 := by kernel_rfl
@[simp] theorem row15 : rowT Try.prog 15 = some false := by kernel_rfl
@[simp] theorem zero15 : zeroA Try.prog 15 = some [(.v (.pointer none))] := by kernel_rfl
@[simp] theorem nstruct15 : structA Try.prog 15 = none := by kernel_rfl
@[simp] theorem u16 : Try.prog.underlying 16 = some (.pointer 131) := by kernel_rfl
@[simp] theorem sz16 : szT Try.prog 16 = some 1 := by kernel_rfl
@[simp] theorem row16 : rowT Try.prog 16 = some false := by kernel_rfl
@[simp] theorem zero16 : zeroA Try.prog 16 = some [(.v (.pointer none))] := by kernel_rfl
@[simp] theorem nstruct16 : structA Try.prog 16 = none := by kernel_rfl
@[simp] theorem u17 : Try.prog.underlying 17 = some (.pointer 139) := by kernel_rfl
@[simp] theorem sz17 : szT Try.prog 17 = some 1 := by kernel_rfl
@[simp] theorem row17 : rowT Try.prog 17 = some false := by kernel_rfl
@[simp] theorem zero17 : zeroA Try.prog 17 = some [(.v (.pointer none))] := by kernel_rfl
@[simp] theorem nstruct17 : structA Try.prog 17 = none := by kernel_rfl
@[simp] theorem sz18 : szT Try.prog 18 = some 1 := by kernel_rfl
@[simp] theorem row18 : rowT Try.prog 18 = some true := by kernel_rfl
@[simp] theorem zero18 : zeroA Try.prog 18 = some [(.v (.pointer none))] := by kernel_rfl
@[simp] theorem struct18 : structA Try.prog 18 = some ([(0, 1)], [(.v (.pointer none))]) := by kernel_rfl
@[simp] theorem fo18_0 : fieldO Try.prog 18 0 = some 0 := by kernel_rfl
@[simp] theorem ft18_0 : fieldT Try.prog 18 0 = some 17 := by kernel_rfl
@[simp] theorem sz19 : szT Try.prog 19 = some 1 := by kernel_rfl
@[simp] theorem row19 : rowT Try.prog 19 = some true := by kernel_rfl
@[simp] theorem zero19 : zeroA Try.prog 19 = some [(.v (.pointer none))] := by kernel_rfl
@[simp] theorem struct19 : structA Try.prog 19 = some ([(0, 1)], [(.v (.pointer none))]) := by kernel_rfl
@[simp] theorem fo19_0 : fieldO Try.prog 19 0 = some 0 := by kernel_rfl
@[simp] theorem ft19_0 : fieldT Try.prog 19 0 = some 17 := by kernel_rfl
@[simp] theorem sz20 : szT Try.prog 20 = some 1 := by kernel_rfl
@[simp] theorem row20 : rowT Try.prog 20 = some false := by kernel_rfl
@[simp] theorem zero20 : zeroA Try.prog 20 = some [(.v .nilIface)] := by kernel_rfl
@[simp] theorem nstruct20 : structA Try.prog 20 = none := by kernel_rfl
@[simp] theorem u21 : Try.prog.underlying 21 = some (.int .i32) := by kernel_rfl
@[simp] theorem sz21 : szT Try.prog 21 = some 1 := by kernel_rfl
@[simp] theorem row21 : rowT Try.prog 21 = some false := by kernel_rfl
@[simp] theorem zero21 : zeroA Try.prog 21 = some [(.v (.int .i32 0))] := by kernel_rfl
@[simp] theorem nstruct21 : structA Try.prog 21 = none := by kernel_rfl
@[simp] theorem u22 : Try.prog.underlying 22 = some (.slice 9) := by kernel_rfl
@[simp] theorem sz22 : szT Try.prog 22 = some 1 := by kernel_rfl
@[simp] theorem row22 : rowT Try.prog 22 = some false := by kernel_rfl
@[simp] theorem elem22 : elemA Try.prog 22 = some (9, 1, 16) := by kernel_rfl
@[simp] theorem zero22 : zeroA Try.prog 22 = some [(.sl .full 0 [])] := by kernel_rfl
@[simp] theorem nstruct22 : structA Try.prog 22 = none := by kernel_rfl
@[simp] theorem sz23 : szT Try.prog 23 = some 1 := by kernel_rfl
@[simp] theorem row23 : rowT Try.prog 23 = some false := by kernel_rfl
@[simp] theorem zero23 : zeroA Try.prog 23 = some [(.v .nilFunc)] := by kernel_rfl
@[simp] theorem nstruct23 : structA Try.prog 23 = none := by kernel_rfl
@[simp] theorem u24 : Try.prog.underlying 24 = some (.int .i64) := by kernel_rfl
@[simp] theorem sz24 : szT Try.prog 24 = some 1 := by kernel_rfl
@[simp] theorem row24 : rowT Try.prog 24 = some false := by kernel_rfl
@[simp] theorem zero24 : zeroA Try.prog 24 = some [(.v (.int .i64 0))] := by kernel_rfl
@[simp] theorem nstruct24 : structA Try.prog 24 = none := by kernel_rfl
@[simp] theorem sz26 : szT Try.prog 26 = some 1 := by kernel_rfl
@[simp] theorem row26 : rowT Try.prog 26 = some false := by kernel_rfl
@[simp] theorem zero26 : zeroA Try.prog 26 = some [(.v .nilFunc)] := by kernel_rfl
@[simp] theorem nstruct26 : structA Try.prog 26 = none := by kernel_rfl
@[simp] theorem sz27 : szT Try.prog 27 = some 1 := by kernel_rfl
@[simp] theorem row27 : rowT Try.prog 27 = some false := by kernel_rfl
@[simp] theorem zero27 : zeroA Try.prog 27 = some [(.v .nilFunc)] := by kernel_rfl
@[simp] theorem nstruct27 : structA Try.prog 27 = none := by kernel_rfl
@[simp] theorem sz29 : szT Try.prog 29 = some 1 := by kernel_rfl
@[simp] theorem row29 : rowT Try.prog 29 = some false := by kernel_rfl
@[simp] theorem zero29 : zeroA Try.prog 29 = some [(.v .nilFunc)] := by kernel_rfl
@[simp] theorem nstruct29 : structA Try.prog 29 = none := by kernel_rfl
@[simp] theorem sz30 : szT Try.prog 30 = some 1 := by kernel_rfl
@[simp] theorem row30 : rowT Try.prog 30 = some false := by kernel_rfl
@[simp] theorem zero30 : zeroA Try.prog 30 = some [(.v .nilFunc)] := by kernel_rfl
@[simp] theorem nstruct30 : structA Try.prog 30 = none := by kernel_rfl
@[simp] theorem sz31 : szT Try.prog 31 = some 1 := by kernel_rfl
@[simp] theorem row31 : rowT Try.prog 31 = some false := by kernel_rfl
@[simp] theorem zero31 : zeroA Try.prog 31 = some [(.v .nilFunc)] := by kernel_rfl
@[simp] theorem nstruct31 : structA Try.prog 31 = none := by kernel_rfl
@[simp] theorem sz32 : szT Try.prog 32 = some 1 := by kernel_rfl
@[simp] theorem row32 : rowT Try.prog 32 = some false := by kernel_rfl
@[simp] theorem zero32 : zeroA Try.prog 32 = some [(.v .nilFunc)] := by kernel_rfl
@[simp] theorem nstruct32 : structA Try.prog 32 = none := by kernel_rfl
@[simp] theorem sz33 : szT Try.prog 33 = some 1 := by kernel_rfl
@[simp] theorem row33 : rowT Try.prog 33 = some false := by kernel_rfl
@[simp] theorem zero33 : zeroA Try.prog 33 = some [(.v .nilFunc)] := by kernel_rfl
@[simp] theorem nstruct33 : structA Try.prog 33 = none := by kernel_rfl
@[simp] theorem u34 : Try.prog.underlying 34 = some (.slice 5) := by kernel_rfl
@[simp] theorem sz34 : szT Try.prog 34 = some 1 := by kernel_rfl
@[simp] theorem row34 : rowT Try.prog 34 = some false := by kernel_rfl
@[simp] theorem elem34 : elemA Try.prog 34 = some (5, 1, 1) := by kernel_rfl
@[simp] theorem zero34 : zeroA Try.prog 34 = some [(.sl .full 0 [])] := by kernel_rfl
@[simp] theorem nstruct34 : structA Try.prog 34 = none := by kernel_rfl
@[simp] theorem sz35 : szT Try.prog 35 = some 1 := by kernel_rfl
@[simp] theorem row35 : rowT Try.prog 35 = some false := by kernel_rfl
@[simp] theorem zero35 : zeroA Try.prog 35 = some [(.v .nilFunc)] := by kernel_rfl
@[simp] theorem nstruct35 : structA Try.prog 35 = none := by kernel_rfl
@[simp] theorem u36 : Try.prog.underlying 36 = some (.int .u64) := by kernel_rfl
@[simp] theorem sz36 : szT Try.prog 36 = some 1 := by kernel_rfl
@[simp] theorem row36 : rowT Try.prog 36 = some false := by kernel_rfl
@[simp] theorem zero36 : zeroA Try.prog 36 = some [(.v (.int .u64 0))] := by kernel_rfl
@[simp] theorem nstruct36 : structA Try.prog 36 = none := by kernel_rfl
@[simp] theorem sz37 : szT Try.prog 37 = some 1 := by kernel_rfl
@[simp] theorem row37 : rowT Try.prog 37 = some false := by kernel_rfl
@[simp] theorem zero37 : zeroA Try.prog 37 = some [(.v .nilFunc)] := by kernel_rfl
@[simp] theorem nstruct37 : structA Try.prog 37 = none := by kernel_rfl
@[simp] theorem sz38 : szT Try.prog 38 = some 1 := by kernel_rfl
@[simp] theorem row38 : rowT Try.prog 38 = some false := by kernel_rfl
@[simp] theorem zero38 : zeroA Try.prog 38 = some [(.v .nilFunc)] := by kernel_rfl
@[simp] theorem nstruct38 : structA Try.prog 38 = none := by kernel_rfl
@[simp] theorem sz39 : szT Try.prog 39 = some 1 := by kernel_rfl
@[simp] theorem row39 : rowT Try.prog 39 = some false := by kernel_rfl
@[simp] theorem zero39 : zeroA Try.prog 39 = some [(.v .nilFunc)] := by kernel_rfl
@[simp] theorem nstruct39 : structA Try.prog 39 = none := by kernel_rfl
@[simp] theorem sz40 : szT Try.prog 40 = some 1 := by kernel_rfl
@[simp] theorem row40 : rowT Try.prog 40 = some false := by kernel_rfl
@[simp] theorem zero40 : zeroA Try.prog 40 = some [(.v .nilFunc)] := by kernel_rfl
@[simp] theorem nstruct40 : structA Try.prog 40 = none := by kernel_rfl
@[simp] theorem sz41 : szT Try.prog 41 = some 1 := by kernel_rfl
@[simp] theorem row41 : rowT Try.prog 41 = some false := by kernel_rfl
@[simp] theorem zero41 : zeroA Try.prog 41 = some [(.v .nilFunc)] := by kernel_rfl
@[simp] theorem nstruct41 : structA Try.prog 41 = none := by kernel_rfl
@[simp] theorem sz42 : szT Try.prog 42 = some 1 := by kernel_rfl
@[simp] theorem row42 : rowT Try.prog 42 = some false := by kernel_rfl
@[simp] theorem zero42 : zeroA Try.prog 42 = some [(.v .nilFunc)] := by kernel_rfl
@[simp] theorem nstruct42 : structA Try.prog 42 = none := by kernel_rfl
@[simp] theorem u43 : Try.prog.underlying 43 = some (.slice 36) := by kernel_rfl
@[simp] theorem sz43 : szT Try.prog 43 = some 1 := by kernel_rfl
@[simp] theorem row43 : rowT Try.prog 43 = some false := by kernel_rfl
@[simp] theorem elem43 : elemA Try.prog 43 = some (36, 1, 8) := by kernel_rfl
@[simp] theorem zero43 : zeroA Try.prog 43 = some [(.sl .full 0 [])] := by kernel_rfl
@[simp] theorem nstruct43 : structA Try.prog 43 = none := by kernel_rfl
@[simp] theorem sz45 : szT Try.prog 45 = some 1 := by kernel_rfl
@[simp] theorem row45 : rowT Try.prog 45 = some false := by kernel_rfl
@[simp] theorem zero45 : zeroA Try.prog 45 = some [(.v .nilFunc)] := by kernel_rfl
@[simp] theorem nstruct45 : structA Try.prog 45 = none := by kernel_rfl
@[simp] theorem sz46 : szT Try.prog 46 = some 1 := by kernel_rfl
@[simp] theorem row46 : rowT Try.prog 46 = some false := by kernel_rfl
@[simp] theorem zero46 : zeroA Try.prog 46 = some [(.v .nilFunc)] := by kernel_rfl
@[simp] theorem nstruct46 : structA Try.prog 46 = none := by kernel_rfl
@[simp] theorem sz47 : szT Try.prog 47 = some 1 := by kernel_rfl
@[simp] theorem row47 : rowT Try.prog 47 = some false := by kernel_rfl
@[simp] theorem zero47 : zeroA Try.prog 47 = some [(.v .nilFunc)] := by kernel_rfl
@[simp] theorem nstruct47 : structA Try.prog 47 = none := by kernel_rfl
@[simp] theorem sz48 : szT Try.prog 48 = some 1 := by kernel_rfl
@[simp] theorem row48 : rowT Try.prog 48 = some false := by kernel_rfl
@[simp] theorem zero48 : zeroA Try.prog 48 = some [(.v .nilFunc)] := by kernel_rfl
@[simp] theorem nstruct48 : structA Try.prog 48 = none := by kernel_rfl
@[simp] theorem sz49 : szT Try.prog 49 = some 1 := by kernel_rfl
@[simp] theorem row49 : rowT Try.prog 49 = some false := by kernel_rfl
@[simp] theorem zero49 : zeroA Try.prog 49 = some [(.v .nilFunc)] := by kernel_rfl
@[simp] theorem nstruct49 : structA Try.prog 49 = none := by kernel_rfl
@[simp] theorem sz50 : szT Try.prog 50 = some 1 := by kernel_rfl
@[simp] theorem row50 : rowT Try.prog 50 = some false := by kernel_rfl
@[simp] theorem zero50 : zeroA Try.prog 50 = some [(.v .nilFunc)] := by kernel_rfl
@[simp] theorem nstruct50 : structA Try.prog 50 = none := by kernel_rfl
@[simp] theorem u51 : Try.prog.underlying 51 = some (.pointer 79) := by kernel_rfl
@[simp] theorem sz51 : szT Try.prog 51 = some 1 := by kernel_rfl
@[simp] theorem row51 : rowT Try.prog 51 = some false := by kernel_rfl
@[simp] theorem zero51 : zeroA Try.prog 51 = some [(.v (.pointer none))] := by kernel_rfl
@[simp] theorem nstruct51 : structA Try.prog 51 = none := by kernel_rfl
@[simp] theorem sz52 : szT Try.prog 52 = some 1 := by kernel_rfl
@[simp] theorem row52 : rowT Try.prog 52 = some false := by kernel_rfl
@[simp] theorem zero52 : zeroA Try.prog 52 = some [(.v .nilFunc)] := by kernel_rfl
@[simp] theorem nstruct52 : structA Try.prog 52 = none := by kernel_rfl
@[simp] theorem sz53 : szT Try.prog 53 = some 1 := by kernel_rfl
@[simp] theorem row53 : rowT Try.prog 53 = some false := by kernel_rfl
@[simp] theorem zero53 : zeroA Try.prog 53 = some [(.v .nilFunc)] := by kernel_rfl
@[simp] theorem nstruct53 : structA Try.prog 53 = none := by kernel_rfl
@[simp] theorem sz54 : szT Try.prog 54 = some 1 := by kernel_rfl
@[simp] theorem row54 : rowT Try.prog 54 = some false := by kernel_rfl
@[simp] theorem zero54 : zeroA Try.prog 54 = some [(.v .nilFunc)] := by kernel_rfl
@[simp] theorem nstruct54 : structA Try.prog 54 = none := by kernel_rfl
@[simp] theorem sz56 : szT Try.prog 56 = some 1 := by kernel_rfl
@[simp] theorem row56 : rowT Try.prog 56 = some false := by kernel_rfl
@[simp] theorem zero56 : zeroA Try.prog 56 = some [(.v .nilFunc)] := by kernel_rfl
@[simp] theorem nstruct56 : structA Try.prog 56 = none := by kernel_rfl
@[simp] theorem sz57 : szT Try.prog 57 = some 1 := by kernel_rfl
@[simp] theorem row57 : rowT Try.prog 57 = some false := by kernel_rfl
@[simp] theorem zero57 : zeroA Try.prog 57 = some [(.v .nilFunc)] := by kernel_rfl
@[simp] theorem nstruct57 : structA Try.prog 57 = none := by kernel_rfl
@[simp] theorem u58 : Try.prog.underlying 58 = some (.pointer 60) := by kernel_rfl
@[simp] theorem sz58 : szT Try.prog 58 = some 1 := by kernel_rfl
@[simp] theorem row58 : rowT Try.prog 58 = some false := by kernel_rfl
@[simp] theorem zero58 : zeroA Try.prog 58 = some [(.v (.pointer none))] := by kernel_rfl
@[simp] theorem nstruct58 : structA Try.prog 58 = none := by kernel_rfl
@[simp] theorem sz59 : szT Try.prog 59 = some 3 := by kernel_rfl
@[simp] theorem row59 : rowT Try.prog 59 = some true := by kernel_rfl
@[simp] theorem zero59 : zeroA Try.prog 59 = some [(.v (.string ⟨#[]⟩)), (.v (.int .i64 0)), (.v (.int .i64 0))] := by kernel_rfl
@[simp] theorem struct59 : structA Try.prog 59 = some ([(0, 1), (1, 1), (2, 1)], [(.v (.string ⟨#[]⟩)), (.v (.int .i64 0)), (.v (.int .i64 0))]) := by kernel_rfl
@[simp] theorem fo59_0 : fieldO Try.prog 59 0 = some 0 := by kernel_rfl
@[simp] theorem ft59_0 : fieldT Try.prog 59 0 = some 9 := by kernel_rfl
@[simp] theorem fo59_1 : fieldO Try.prog 59 1 = some 1 := by kernel_rfl
@[simp] theorem ft59_1 : fieldT Try.prog 59 1 = some 3 := by kernel_rfl
@[simp] theorem fo59_2 : fieldO Try.prog 59 2 = some 2 := by kernel_rfl
@[simp] theorem ft59_2 : fieldT Try.prog 59 2 = some 24 := by kernel_rfl
@[simp] theorem sz60 : szT Try.prog 60 = some 3 := by kernel_rfl
@[simp] theorem row60 : rowT Try.prog 60 = some true := by kernel_rfl
@[simp] theorem zero60 : zeroA Try.prog 60 = some [(.v (.string ⟨#[]⟩)), (.v (.int .i64 0)), (.v (.int .i64 0))] := by kernel_rfl
@[simp] theorem struct60 : structA Try.prog 60 = some ([(0, 1), (1, 1), (2, 1)], [(.v (.string ⟨#[]⟩)), (.v (.int .i64 0)), (.v (.int .i64 0))]) := by kernel_rfl
@[simp] theorem fo60_0 : fieldO Try.prog 60 0 = some 0 := by kernel_rfl
@[simp] theorem ft60_0 : fieldT Try.prog 60 0 = some 9 := by kernel_rfl
@[simp] theorem fo60_1 : fieldO Try.prog 60 1 = some 1 := by kernel_rfl
@[simp] theorem ft60_1 : fieldT Try.prog 60 1 = some 3 := by kernel_rfl
@[simp] theorem fo60_2 : fieldO Try.prog 60 2 = some 2 := by kernel_rfl
@[simp] theorem ft60_2 : fieldT Try.prog 60 2 = some 24 := by kernel_rfl
@[simp] theorem sz61 : szT Try.prog 61 = some 1 := by kernel_rfl
@[simp] theorem row61 : rowT Try.prog 61 = some false := by kernel_rfl
@[simp] theorem zero61 : zeroA Try.prog 61 = some [(.v .nilFunc)] := by kernel_rfl
@[simp] theorem nstruct61 : structA Try.prog 61 = none := by kernel_rfl
@[simp] theorem sz62 : szT Try.prog 62 = some 1 := by kernel_rfl
@[simp] theorem row62 : rowT Try.prog 62 = some false := by kernel_rfl
@[simp] theorem zero62 : zeroA Try.prog 62 = some [(.v .nilFunc)] := by kernel_rfl
@[simp] theorem nstruct62 : structA Try.prog 62 = none := by kernel_rfl
@[simp] theorem sz63 : szT Try.prog 63 = some 1 := by kernel_rfl
@[simp] theorem row63 : rowT Try.prog 63 = some false := by kernel_rfl
@[simp] theorem zero63 : zeroA Try.prog 63 = some [(.v .nilFunc)] := by kernel_rfl
@[simp] theorem nstruct63 : structA Try.prog 63 = none := by kernel_rfl
@[simp] theorem sz64 : szT Try.prog 64 = some 1 := by kernel_rfl
@[simp] theorem row64 : rowT Try.prog 64 = some false := by kernel_rfl
@[simp] theorem zero64 : zeroA Try.prog 64 = some [(.v .nilFunc)] := by kernel_rfl
@[simp] theorem nstruct64 : structA Try.prog 64 = none := by kernel_rfl
@[simp] theorem u65 : Try.prog.underlying 65 = some (.int .u64) := by kernel_rfl
@[simp] theorem sz65 : szT Try.prog 65 = some 1 := by kernel_rfl
@[simp] theorem row65 : rowT Try.prog 65 = some false := by kernel_rfl
@[simp] theorem zero65 : zeroA Try.prog 65 = some [(.v (.int .u64 0))] := by kernel_rfl
@[simp] theorem nstruct65 : structA Try.prog 65 = none := by kernel_rfl
@[simp] theorem sz66 : szT Try.prog 66 = some 1 := by kernel_rfl
@[simp] theorem row66 : rowT Try.prog 66 = some false := by kernel_rfl
@[simp] theorem zero66 : zeroA Try.prog 66 = some [(.v .nilFunc)] := by kernel_rfl
@[simp] theorem nstruct66 : structA Try.prog 66 = none := by kernel_rfl
@[simp] theorem sz67 : szT Try.prog 67 = some 1 := by kernel_rfl
@[simp] theorem row67 : rowT Try.prog 67 = some false := by kernel_rfl
@[simp] theorem zero67 : zeroA Try.prog 67 = some [(.v .nilFunc)] := by kernel_rfl
@[simp] theorem nstruct67 : structA Try.prog 67 = none := by kernel_rfl
@[simp] theorem sz68 : szT Try.prog 68 = some 1 := by kernel_rfl
@[simp] theorem row68 : rowT Try.prog 68 = some false := by kernel_rfl
@[simp] theorem zero68 : zeroA Try.prog 68 = some [(.v .nilFunc)] := by kernel_rfl
@[simp] theorem nstruct68 : structA Try.prog 68 = none := by kernel_rfl
@[simp] theorem sz69 : szT Try.prog 69 = some 1 := by kernel_rfl
@[simp] theorem row69 : rowT Try.prog 69 = some false := by kernel_rfl
@[simp] theorem zero69 : zeroA Try.prog 69 = some [(.v .nilFunc)] := by kernel_rfl
@[simp] theorem nstruct69 : structA Try.prog 69 = none := by kernel_rfl
@[simp] theorem sz70 : szT Try.prog 70 = some 1 := by kernel_rfl
@[simp] theorem row70 : rowT Try.prog 70 = some false := by kernel_rfl
@[simp] theorem zero70 : zeroA Try.prog 70 = some [(.v .nilFunc)] := by kernel_rfl
@[simp] theorem nstruct70 : structA Try.prog 70 = none := by kernel_rfl
@[simp] theorem u71 : Try.prog.underlying 71 = some (.pointer 73) := by kernel_rfl
@[simp] theorem sz71 : szT Try.prog 71 = some 1 := by kernel_rfl
@[simp] theorem row71 : rowT Try.prog 71 = some false := by kernel_rfl
@[simp] theorem zero71 : zeroA Try.prog 71 = some [(.v (.pointer none))] := by kernel_rfl
@[simp] theorem nstruct71 : structA Try.prog 71 = none := by kernel_rfl
@[simp] theorem sz72 : szT Try.prog 72 = some 2 := by kernel_rfl
@[simp] theorem row72 : rowT Try.prog 72 = some true := by kernel_rfl
@[simp] theorem zero72 : zeroA Try.prog 72 = some [(.sl .full 0 []), (.v (.int .i64 0))] := by kernel_rfl
@[simp] theorem struct72 : structA Try.prog 72 = some ([(0, 1), (1, 1)], [(.sl .full 0 []), (.v (.int .i64 0))]) := by kernel_rfl
@[simp] theorem fo72_0 : fieldO Try.prog 72 0 = some 0 := by kernel_rfl
@[simp] theorem ft72_0 : fieldT Try.prog 72 0 = some 34 := by kernel_rfl
@[simp] theorem fo72_1 : fieldO Try.prog 72 1 = some 1 := by kernel_rfl
@[simp] theorem ft72_1 : fieldT Try.prog 72 1 = some 3 := by kernel_rfl
@[simp] theorem sz73 : szT Try.prog 73 = some 2 := by kernel_rfl
@[simp] theorem row73 : rowT Try.prog 73 = some true := by kernel_rfl
@[simp] theorem zero73 : zeroA Try.prog 73 = some [(.sl .full 0 []), (.v (.int .i64 0))] := by kernel_rfl
@[simp] theorem struct73 : structA Try.prog 73 = some ([(0, 1), (1, 1)], [(.sl .full 0 []), (.v (.int .i64 0))]) := by kernel_rfl
@[simp] theorem fo73_0 : fieldO Try.prog 73 0 = some 0 := by kernel_rfl
@[simp] theorem ft73_0 : fieldT Try.prog 73 0 = some 34 := by kernel_rfl
@[simp] theorem fo73_1 : fieldO Try.prog 73 1 = some 1 := by kernel_rfl
@[simp] theorem ft73_1 : fieldT Try.prog 73 1 = some 3 := by kernel_rfl
@[simp] theorem sz74 : szT Try.prog 74 = some 1 := by kernel_rfl
@[simp] theorem row74 : rowT Try.prog 74 = some false := by kernel_rfl
@[simp] theorem zero74 : zeroA Try.prog 74 = some [(.v .nilFunc)] := by kernel_rfl
@[simp] theorem nstruct74 : structA Try.prog 74 = none := by kernel_rfl
@[simp] theorem sz75 : szT Try.prog 75 = some 1 := by kernel_rfl
@[simp] theorem row75 : rowT Try.prog 75 = some false := by kernel_rfl
@[simp] theorem zero75 : zeroA Try.prog 75 = some [(.v .nilFunc)] := by kernel_rfl
@[simp] theorem nstruct75 : structA Try.prog 75 = none := by kernel_rfl
@[simp] theorem u76 : Try.prog.underlying 76 = some (.slice 4) := by kernel_rfl
@[simp] theorem sz76 : szT Try.prog 76 = some 1 := by kernel_rfl
@[simp] theorem row76 : rowT Try.prog 76 = some false := by kernel_rfl
@[simp] theorem elem76 : elemA Try.prog 76 = some (4, 1, 1) := by kernel_rfl
@[simp] theorem zero76 : zeroA Try.prog 76 = some [(.sl .full 0 [])] := by kernel_rfl
@[simp] theorem nstruct76 : structA Try.prog 76 = none := by kernel_rfl
@[simp] theorem sz77 : szT Try.prog 77 = some 1 := by kernel_rfl
@[simp] theorem row77 : rowT Try.prog 77 = some false := by kernel_rfl
@[simp] theorem zero77 : zeroA Try.prog 77 = some [(.v .nilFunc)] := by kernel_rfl
@[simp] theorem nstruct77 : structA Try.prog 77 = none := by kernel_rfl
@[simp] theorem sz78 : szT Try.prog 78 = some 2 := by kernel_rfl
@[simp] theorem row78 : rowT Try.prog 78 = some true := by kernel_rfl
@[simp] theorem zero78 : zeroA Try.prog 78 = some [(.v (.string ⟨#[]⟩)), (.v (.int .i64 0))] := by kernel_rfl
@[simp] theorem struct78 : structA Try.prog 78 = some ([(0, 1), (1, 1)], [(.v (.string ⟨#[]⟩)), (.v (.int .i64 0))]) := by kernel_rfl
@[simp] theorem fo78_0 : fieldO Try.prog 78 0 = some 0 := by kernel_rfl
@[simp] theorem ft78_0 : fieldT Try.prog 78 0 = some 9 := by kernel_rfl
@[simp] theorem fo78_1 : fieldO Try.prog 78 1 = some 1 := by kernel_rfl
@[simp] theorem ft78_1 : fieldT Try.prog 78 1 = some 24 := by kernel_rfl
@[simp] theorem sz79 : szT Try.prog 79 = some 2 := by kernel_rfl
@[simp] theorem row79 : rowT Try.prog 79 = some true := by kernel_rfl
@[simp] theorem zero79 : zeroA Try.prog 79 = some [(.v (.string ⟨#[]⟩)), (.v (.int .i64 0))] := by kernel_rfl
@[simp] theorem struct79 : structA Try.prog 79 = some ([(0, 1), (1, 1)], [(.v (.string ⟨#[]⟩)), (.v (.int .i64 0))]) := by kernel_rfl
@[simp] theorem fo79_0 : fieldO Try.prog 79 0 = some 0 := by kernel_rfl
@[simp] theorem ft79_0 : fieldT Try.prog 79 0 = some 9 := by kernel_rfl
@[simp] theorem fo79_1 : fieldO Try.prog 79 1 = some 1 := by kernel_rfl
@[simp] theorem ft79_1 : fieldT Try.prog 79 1 = some 24 := by kernel_rfl
@[simp] theorem sz80 : szT Try.prog 80 = some 1 := by kernel_rfl
@[simp] theorem row80 : rowT Try.prog 80 = some false := by kernel_rfl
@[simp] theorem zero80 : zeroA Try.prog 80 = some [(.v .nilFunc)] := by kernel_rfl
@[simp] theorem nstruct80 : structA Try.prog 80 = none := by kernel_rfl
@[simp] theorem sz81 : szT Try.prog 81 = some 1 := by kernel_rfl
@[simp] theorem row81 : rowT Try.prog 81 = some false := by kernel_rfl
@[simp] theorem zero81 : zeroA Try.prog 81 = some [(.v .nilFunc)] := by kernel_rfl
@[simp] theorem nstruct81 : structA Try.prog 81 = none := by kernel_rfl
@[simp] theorem sz83 : szT Try.prog 83 = some 1 := by kernel_rfl
@[simp] theorem row83 : rowT Try.prog 83 = some false := by kernel_rfl
@[simp] theorem zero83 : zeroA Try.prog 83 = some [(.v .nilFunc)] := by kernel_rfl
@[simp] theorem nstruct83 : structA Try.prog 83 = none := by kernel_rfl
@[simp] theorem u84 : Try.prog.underlying 84 = some (.map 36 3) := by kernel_rfl
@[simp] theorem sz84 : szT Try.prog 84 = some 1 := by kernel_rfl
@[simp] theorem row84 : rowT Try.prog 84 = some false := by kernel_rfl
@[simp] theorem zero84 : zeroA Try.prog 84 = some [(.v (.map none))] := by kernel_rfl
@[simp] theorem nstruct84 : structA Try.prog 84 = none := by kernel_rfl
@[simp] theorem mk84 : mapKT Try.prog 84 = some 36 := by kernel_rfl
@[simp] theorem me84 : mapET Try.prog 84 = some 3 := by kernel_rfl
@[simp] theorem sz85 : szT Try.prog 85 = some 1 := by kernel_rfl
@[simp] theorem row85 : rowT Try.prog 85 = some false := by kernel_rfl
@[simp] theorem zero85 : zeroA Try.prog 85 = some [(.v .nilFunc)] := by kernel_rfl
@[simp] theorem nstruct85 : structA Try.prog 85 = none := by kernel_rfl
@[simp] theorem sz87 : szT Try.prog 87 = some 1 := by kernel_rfl
@[simp] theorem row87 : rowT Try.prog 87 = some false := by kernel_rfl
@[simp] theorem zero87 : zeroA Try.prog 87 = some [(.v .nilFunc)] := by kernel_rfl
@[simp] theorem nstruct87 : structA Try.prog 87 = none := by kernel_rfl
@[simp] theorem sz89 : szT Try.prog 89 = some 1 := by kernel_rfl
@[simp] theorem row89 : rowT Try.prog 89 = some false := by kernel_rfl
@[simp] theorem zero89 : zeroA Try.prog 89 = some [(.v .nilFunc)] := by kernel_rfl
@[simp] theorem nstruct89 : structA Try.prog 89 = none := by kernel_rfl
@[simp] theorem sz90 : szT Try.prog 90 = some 1 := by kernel_rfl
@[simp] theorem row90 : rowT Try.prog 90 = some false := by kernel_rfl
@[simp] theorem zero90 : zeroA Try.prog 90 = some [(.v .nilFunc)] := by kernel_rfl
@[simp] theorem nstruct90 : structA Try.prog 90 = none := by kernel_rfl
@[simp] theorem sz91 : szT Try.prog 91 = some 1 := by kernel_rfl
@[simp] theorem row91 : rowT Try.prog 91 = some false := by kernel_rfl
@[simp] theorem zero91 : zeroA Try.prog 91 = some [(.v .nilFunc)] := by kernel_rfl
@[simp] theorem nstruct91 : structA Try.prog 91 = none := by kernel_rfl
@[simp] theorem sz92 : szT Try.prog 92 = some 1 := by kernel_rfl
@[simp] theorem row92 : rowT Try.prog 92 = some false := by kernel_rfl
@[simp] theorem zero92 : zeroA Try.prog 92 = some [(.v .nilFunc)] := by kernel_rfl
@[simp] theorem nstruct92 : structA Try.prog 92 = none := by kernel_rfl
@[simp] theorem sz93 : szT Try.prog 93 = some 1 := by kernel_rfl
@[simp] theorem row93 : rowT Try.prog 93 = some false := by kernel_rfl
@[simp] theorem zero93 : zeroA Try.prog 93 = some [(.v .nilFunc)] := by kernel_rfl
@[simp] theorem nstruct93 : structA Try.prog 93 = none := by kernel_rfl
@[simp] theorem sz94 : szT Try.prog 94 = some 1 := by kernel_rfl
@[simp] theorem row94 : rowT Try.prog 94 = some false := by kernel_rfl
@[simp] theorem zero94 : zeroA Try.prog 94 = some [(.v .nilFunc)] := by kernel_rfl
@[simp] theorem nstruct94 : structA Try.prog 94 = none := by kernel_rfl
@[simp] theorem sz95 : szT Try.prog 95 = some 3 := by kernel_rfl
@[simp] theorem row95 : rowT Try.prog 95 = some true := by kernel_rfl
@[simp] theorem zero95 : zeroA Try.prog 95 = some [(.v (.bool false)), (.v (.int .i64 0)), (.v (.string ⟨#[]⟩))] := by kernel_rfl
@[simp] theorem struct95 : structA Try.prog 95 = some ([(0, 1), (1, 1), (2, 1)], [(.v (.bool false)), (.v (.int .i64 0)), (.v (.string ⟨#[]⟩))]) := by kernel_rfl
@[simp] theorem fo95_0 : fieldO Try.prog 95 0 = some 0 := by kernel_rfl
@[simp] theorem ft95_0 : fieldT Try.prog 95 0 = some 4 := by kernel_rfl
@[simp] theorem fo95_1 : fieldO Try.prog 95 1 = some 1 := by kernel_rfl
@[simp] theorem ft95_1 : fieldT Try.prog 95 1 = some 2 := by kernel_rfl
@[simp] theorem fo95_2 : fieldO Try.prog 95 2 = some 2 := by kernel_rfl
@[simp] theorem ft95_2 : fieldT Try.prog 95 2 = some 9 := by kernel_rfl
@[simp] theorem sz96 : szT Try.prog 96 = some 3 := by kernel_rfl
@[simp] theorem row96 : rowT Try.prog 96 = some true := by kernel_rfl
@[simp] theorem zero96 : zeroA Try.prog 96 = some [(.v (.bool false)), (.v (.int .i64 0)), (.v (.string ⟨#[]⟩))] := by kernel_rfl
@[simp] theorem struct96 : structA Try.prog 96 = some ([(0, 1), (1, 1), (2, 1)], [(.v (.bool false)), (.v (.int .i64 0)), (.v (.string ⟨#[]⟩))]) := by kernel_rfl
@[simp] theorem fo96_0 : fieldO Try.prog 96 0 = some 0 := by kernel_rfl
@[simp] theorem ft96_0 : fieldT Try.prog 96 0 = some 4 := by kernel_rfl
@[simp] theorem fo96_1 : fieldO Try.prog 96 1 = some 1 := by kernel_rfl
@[simp] theorem ft96_1 : fieldT Try.prog 96 1 = some 2 := by kernel_rfl
@[simp] theorem fo96_2 : fieldO Try.prog 96 2 = some 2 := by kernel_rfl
@[simp] theorem ft96_2 : fieldT Try.prog 96 2 = some 9 := by kernel_rfl
@[simp] theorem sz98 : szT Try.prog 98 = some 1 := by kernel_rfl
@[simp] theorem row98 : rowT Try.prog 98 = some false := by kernel_rfl
@[simp] theorem zero98 : zeroA Try.prog 98 = some [(.v .nilFunc)] := by kernel_rfl
@[simp] theorem nstruct98 : structA Try.prog 98 = none := by kernel_rfl
@[simp] theorem sz99 : szT Try.prog 99 = some 1 := by kernel_rfl
@[simp] theorem row99 : rowT Try.prog 99 = some false := by kernel_rfl
@[simp] theorem zero99 : zeroA Try.prog 99 = some [(.v .nilFunc)] := by kernel_rfl
@[simp] theorem nstruct99 : structA Try.prog 99 = none := by kernel_rfl
@[simp] theorem sz101 : szT Try.prog 101 = some 1 := by kernel_rfl
@[simp] theorem row101 : rowT Try.prog 101 = some false := by kernel_rfl
@[simp] theorem zero101 : zeroA Try.prog 101 = some [(.v .nilFunc)] := by kernel_rfl
@[simp] theorem nstruct101 : structA Try.prog 101 = none := by kernel_rfl
@[simp] theorem sz102 : szT Try.prog 102 = some 1 := by kernel_rfl
@[simp] theorem row102 : rowT Try.prog 102 = some false := by kernel_rfl
@[simp] theorem zero102 : zeroA Try.prog 102 = some [(.v .nilFunc)] := by kernel_rfl
@[simp] theorem nstruct102 : structA Try.prog 102 = none := by kernel_rfl
@[simp] theorem u103 : Try.prog.underlying 103 = some (.int .i64) := by kernel_rfl
@[simp] theorem sz103 : szT Try.prog 103 = some 1 := by kernel_rfl
@[simp] theorem row103 : rowT Try.prog 103 = some false := by kernel_rfl
@[simp] theorem zero103 : zeroA Try.prog 103 = some [(.v (.int .i64 0))] := by kernel_rfl
@[simp] theorem nstruct103 : structA Try.prog 103 = none := by kernel_rfl
@[simp] theorem sz105 : szT Try.prog 105 = some 1 := by kernel_rfl
@[simp] theorem row105 : rowT Try.prog 105 = some false := by kernel_rfl
@[simp] theorem zero105 : zeroA Try.prog 105 = some [(.v .nilFunc)] := by kernel_rfl
@[simp] theorem nstruct105 : structA Try.prog 105 = none := by kernel_rfl
@[simp] theorem sz106 : szT Try.prog 106 = some 1 := by kernel_rfl
@[simp] theorem row106 : rowT Try.prog 106 = some false := by kernel_rfl
@[simp] theorem zero106 : zeroA Try.prog 106 = some [(.v .nilFunc)] := by kernel_rfl
@[simp] theorem nstruct106 : structA Try.prog 106 = none := by kernel_rfl
@[simp] theorem sz107 : szT Try.prog 107 = some 1 := by kernel_rfl
@[simp] theorem row107 : rowT Try.prog 107 = some false := by kernel_rfl
@[simp] theorem zero107 : zeroA Try.prog 107 = some [(.v .nilFunc)] := by kernel_rfl
@[simp] theorem nstruct107 : structA Try.prog 107 = none := by kernel_rfl
@[simp] theorem sz108 : szT Try.prog 108 = some 1 := by kernel_rfl
@[simp] theorem row108 : rowT Try.prog 108 = some false := by kernel_rfl
@[simp] theorem zero108 : zeroA Try.prog 108 = some [(.v .nilFunc)] := by kernel_rfl
@[simp] theorem nstruct108 : structA Try.prog 108 = none := by kernel_rfl
@[simp] theorem sz109 : szT Try.prog 109 = some 1 := by kernel_rfl
@[simp] theorem row109 : rowT Try.prog 109 = some false := by kernel_rfl
@[simp] theorem zero109 : zeroA Try.prog 109 = some [(.v .nilFunc)] := by kernel_rfl
@[simp] theorem nstruct109 : structA Try.prog 109 = none := by kernel_rfl
@[simp] theorem u110 : Try.prog.underlying 110 = some (.int .u32) := by kernel_rfl
@[simp] theorem sz110 : szT Try.prog 110 = some 1 := by kernel_rfl
@[simp] theorem row110 : rowT Try.prog 110 = some false := by kernel_rfl
@[simp] theorem zero110 : zeroA Try.prog 110 = some [(.v (.int .u32 0))] := by kernel_rfl
@[simp] theorem nstruct110 : structA Try.prog 110 = none := by kernel_rfl
@[simp] theorem u111 : Try.prog.underlying 111 = some (.array 10 36) := by kernel_rfl
@[simp] theorem sz111 : szT Try.prog 111 = some 10 := by kernel_rfl
@[simp] theorem row111 : rowT Try.prog 111 = some true := by kernel_rfl
@[simp] theorem zero111 : zeroA Try.prog 111 = some [(.v (.int .u64 0)), (.v (.int .u64 0)), (.v (.int .u64 0)), (.v (.int .u64 0)), (.v (.int .u64 0)), (.v (.int .u64 0)), (.v (.int .u64 0)), (.v (.int .u64 0)), (.v (.int .u64 0)), (.v (.int .u64 0))] := by kernel_rfl
@[simp] theorem nstruct111 : structA Try.prog 111 = none := by kernel_rfl
@[simp] theorem arr111 : arrA Try.prog 111 = some (1, [(.v (.int .u64 0)), (.v (.int .u64 0)), (.v (.int .u64 0)), (.v (.int .u64 0)), (.v (.int .u64 0)), (.v (.int .u64 0)), (.v (.int .u64 0)), (.v (.int .u64 0)), (.v (.int .u64 0)), (.v (.int .u64 0))]) := by kernel_rfl
@[simp] theorem an111 : arrN Try.prog 111 = some 10 := by kernel_rfl
@[simp] theorem ae111 : arrE Try.prog 111 = some 36 := by kernel_rfl
@[simp] theorem sz112 : szT Try.prog 112 = some 1 := by kernel_rfl
@[simp] theorem row112 : rowT Try.prog 112 = some false := by kernel_rfl
@[simp] theorem zero112 : zeroA Try.prog 112 = some [(.v .nilFunc)] := by kernel_rfl
@[simp] theorem nstruct112 : structA Try.prog 112 = none := by kernel_rfl
@[simp] theorem u113 : Try.prog.underlying 113 = some (.pointer 115) := by kernel_rfl
@[simp] theorem sz113 : szT Try.prog 113 = some 1 := by kernel_rfl
@[simp] theorem row113 : rowT Try.prog 113 = some false := by kernel_rfl
@[simp] theorem zero113 : zeroA Try.prog 113 = some [(.v (.pointer none))] := by kernel_rfl
@[simp] theorem nstruct113 : structA Try.prog 113 = none := by kernel_rfl
@[simp] theorem sz114 : szT Try.prog 114 = some 2 := by kernel_rfl
@[simp] theorem row114 : rowT Try.prog 114 = some true := by kernel_rfl
@[simp] theorem zero114 : zeroA Try.prog 114 = some [(.v (.string ⟨#[]⟩)), (.v (.int .i64 0))] := by kernel_rfl
@[simp] theorem struct114 : structA Try.prog 114 = some ([(0, 1), (1, 1)], [(.v (.string ⟨#[]⟩)), (.v (.int .i64 0))]) := by kernel_rfl
@[simp] theorem fo114_0 : fieldO Try.prog 114 0 = some 0 := by kernel_rfl
@[simp] theorem ft114_0 : fieldT Try.prog 114 0 = some 9 := by kernel_rfl
@[simp] theorem fo114_1 : fieldO Try.prog 114 1 = some 1 := by kernel_rfl
@[simp] theorem ft114_1 : fieldT Try.prog 114 1 = some 3 := by kernel_rfl
@[simp] theorem sz115 : szT Try.prog 115 = some 2 := by kernel_rfl
@[simp] theorem row115 : rowT Try.prog 115 = some true := by kernel_rfl
@[simp] theorem zero115 : zeroA Try.prog 115 = some [(.v (.string ⟨#[]⟩)), (.v (.int .i64 0))] := by kernel_rfl
@[simp] theorem struct115 : structA Try.prog 115 = some ([(0, 1), (1, 1)], [(.v (.string ⟨#[]⟩)), (.v (.int .i64 0))]) := by kernel_rfl
@[simp] theorem fo115_0 : fieldO Try.prog 115 0 = some 0 := by kernel_rfl
@[simp] theorem ft115_0 : fieldT Try.prog 115 0 = some 9 := by kernel_rfl
@[simp] theorem fo115_1 : fieldO Try.prog 115 1 = some 1 := by kernel_rfl
@[simp] theorem ft115_1 : fieldT Try.prog 115 1 = some 3 := by kernel_rfl
@[simp] theorem sz116 : szT Try.prog 116 = some 1 := by kernel_rfl
@[simp] theorem row116 : rowT Try.prog 116 = some false := by kernel_rfl
@[simp] theorem zero116 : zeroA Try.prog 116 = some [(.v .nilFunc)] := by kernel_rfl
@[simp] theorem nstruct116 : structA Try.prog 116 = none := by kernel_rfl
@[simp] theorem sz117 : szT Try.prog 117 = some 1 := by kernel_rfl
@[simp] theorem row117 : rowT Try.prog 117 = some false := by kernel_rfl
@[simp] theorem zero117 : zeroA Try.prog 117 = some [(.v .nilFunc)] := by kernel_rfl
@[simp] theorem nstruct117 : structA Try.prog 117 = none := by kernel_rfl
@[simp] theorem u118 : Try.prog.underlying 118 = some (.int .u64) := by kernel_rfl
@[simp] theorem sz118 : szT Try.prog 118 = some 1 := by kernel_rfl
@[simp] theorem row118 : rowT Try.prog 118 = some false := by kernel_rfl
@[simp] theorem zero118 : zeroA Try.prog 118 = some [(.v (.int .u64 0))] := by kernel_rfl
@[simp] theorem nstruct118 : structA Try.prog 118 = none := by kernel_rfl
@[simp] theorem sz119 : szT Try.prog 119 = some 1 := by kernel_rfl
@[simp] theorem row119 : rowT Try.prog 119 = some false := by kernel_rfl
@[simp] theorem zero119 : zeroA Try.prog 119 = some [(.v .nilFunc)] := by kernel_rfl
@[simp] theorem nstruct119 : structA Try.prog 119 = none := by kernel_rfl
@[simp] theorem sz120 : szT Try.prog 120 = some 1 := by kernel_rfl
@[simp] theorem row120 : rowT Try.prog 120 = some false := by kernel_rfl
@[simp] theorem zero120 : zeroA Try.prog 120 = some [(.v .nilFunc)] := by kernel_rfl
@[simp] theorem nstruct120 : structA Try.prog 120 = none := by kernel_rfl
@[simp] theorem u121 : Try.prog.underlying 121 = some (.pointer 3) := by kernel_rfl
@[simp] theorem sz121 : szT Try.prog 121 = some 1 := by kernel_rfl
@[simp] theorem row121 : rowT Try.prog 121 = some false := by kernel_rfl
@[simp] theorem zero121 : zeroA Try.prog 121 = some [(.v (.pointer none))] := by kernel_rfl
@[simp] theorem nstruct121 : structA Try.prog 121 = none := by kernel_rfl
@[simp] theorem sz122 : szT Try.prog 122 = some 1 := by kernel_rfl
@[simp] theorem row122 : rowT Try.prog 122 = some false := by kernel_rfl
@[simp] theorem zero122 : zeroA Try.prog 122 = some [(.v .nilFunc)] := by kernel_rfl
@[simp] theorem nstruct122 : structA Try.prog 122 = none := by kernel_rfl
@[simp] theorem u123 : Try.prog.underlying 123 = some (.pointer 118) := by kernel_rfl
@[simp] theorem sz123 : szT Try.prog 123 = some 1 := by kernel_rfl
@[simp] theorem row123 : rowT Try.prog 123 = some false := by kernel_rfl
@[simp] theorem zero123 : zeroA Try.prog 123 = some [(.v (.pointer none))] := by kernel_rfl
@[simp] theorem nstruct123 : structA Try.prog 123 = none := by kernel_rfl
@[simp] theorem sz125 : szT Try.prog 125 = some 1 := by kernel_rfl
@[simp] theorem row125 : rowT Try.prog 125 = some false := by kernel_rfl
@[simp] theorem zero125 : zeroA Try.prog 125 = some [(.v .nilFunc)] := by kernel_rfl
@[simp] theorem nstruct125 : structA Try.prog 125 = none := by kernel_rfl
@[simp] theorem sz126 : szT Try.prog 126 = some 1 := by kernel_rfl
@[simp] theorem row126 : rowT Try.prog 126 = some false := by kernel_rfl
@[simp] theorem zero126 : zeroA Try.prog 126 = some [(.v .nilFunc)] := by kernel_rfl
@[simp] theorem nstruct126 : structA Try.prog 126 = none := by kernel_rfl
@[simp] theorem sz127 : szT Try.prog 127 = some 4 := by kernel_rfl
@[simp] theorem row127 : rowT Try.prog 127 = some true := by kernel_rfl
@[simp] theorem zero127 : zeroA Try.prog 127 = some [(.v (.pointer none)), (.v (.pointer none)), (.v (.pointer none)), (.v (.string ⟨#[]⟩))] := by kernel_rfl
@[simp] theorem struct127 : structA Try.prog 127 = some ([(0, 1), (1, 1), (2, 1), (3, 1)], [(.v (.pointer none)), (.v (.pointer none)), (.v (.pointer none)), (.v (.string ⟨#[]⟩))]) := by kernel_rfl
@[simp] theorem fo127_0 : fieldO Try.prog 127 0 = some 0 := by kernel_rfl
@[simp] theorem ft127_0 : fieldT Try.prog 127 0 = some 17 := by kernel_rfl
@[simp] theorem fo127_1 : fieldO Try.prog 127 1 = some 1 := by kernel_rfl
@[simp] theorem ft127_1 : fieldT Try.prog 127 1 = some 17 := by kernel_rfl
@[simp] theorem fo127_2 : fieldO Try.prog 127 2 = some 2 := by kernel_rfl
@[simp] theorem ft127_2 : fieldT Try.prog 127 2 = some 17 := by kernel_rfl
@[simp] theorem fo127_3 : fieldO Try.prog 127 3 = some 3 := by kernel_rfl
@[simp] theorem ft127_3 : fieldT Try.prog 127 3 = some 9 := by kernel_rfl
@[simp] theorem sz128 : szT Try.prog 128 = some 4 := by kernel_rfl
@[simp] theorem row128 : rowT Try.prog 128 = some true := by kernel_rfl
@[simp] theorem zero128 : zeroA Try.prog 128 = some [(.v (.pointer none)), (.v (.pointer none)), (.v (.pointer none)), (.v (.string ⟨#[]⟩))] := by kernel_rfl
@[simp] theorem struct128 : structA Try.prog 128 = some ([(0, 1), (1, 1), (2, 1), (3, 1)], [(.v (.pointer none)), (.v (.pointer none)), (.v (.pointer none)), (.v (.string ⟨#[]⟩))]) := by kernel_rfl
@[simp] theorem fo128_0 : fieldO Try.prog 128 0 = some 0 := by kernel_rfl
@[simp] theorem ft128_0 : fieldT Try.prog 128 0 = some 17 := by kernel_rfl
@[simp] theorem fo128_1 : fieldO Try.prog 128 1 = some 1 := by kernel_rfl
@[simp] theorem ft128_1 : fieldT Try.prog 128 1 = some 17 := by kernel_rfl
@[simp] theorem fo128_2 : fieldO Try.prog 128 2 = some 2 := by kernel_rfl
@[simp] theorem ft128_2 : fieldT Try.prog 128 2 = some 17 := by kernel_rfl
@[simp] theorem fo128_3 : fieldO Try.prog 128 3 = some 3 := by kernel_rfl
@[simp] theorem ft128_3 : fieldT Try.prog 128 3 = some 9 := by kernel_rfl
@[simp] theorem u129 : Try.prog.underlying 129 = some (.array 0 16) := by kernel_rfl
@[simp] theorem sz129 : szT Try.prog 129 = some 0 := by kernel_rfl
@[simp] theorem row129 : rowT Try.prog 129 = some true := by kernel_rfl
@[simp] theorem zero129 : zeroA Try.prog 129 = some [] := by kernel_rfl
@[simp] theorem nstruct129 : structA Try.prog 129 = none := by kernel_rfl
@[simp] theorem arr129 : arrA Try.prog 129 = some (1, []) := by kernel_rfl
@[simp] theorem an129 : arrN Try.prog 129 = some 0 := by kernel_rfl
@[simp] theorem ae129 : arrE Try.prog 129 = some 16 := by kernel_rfl
@[simp] theorem sz130 : szT Try.prog 130 = some 0 := by kernel_rfl
@[simp] theorem row130 : rowT Try.prog 130 = some true := by kernel_rfl
@[simp] theorem zero130 : zeroA Try.prog 130 = some [] := by kernel_rfl
@[simp] theorem struct130 : structA Try.prog 130 = some ([(0, 0)], []) := by kernel_rfl
@[simp] theorem fo130_0 : fieldO Try.prog 130 0 = some 0 := by kernel_rfl
@[simp] theorem ft130_0 : fieldT Try.prog 130 0 = some 129 := by kernel_rfl
@[simp] theorem sz131 : szT Try.prog 131 = some 0 := by kernel_rfl
@[simp] theorem row131 : rowT Try.prog 131 = some true := by kernel_rfl
@[simp] theorem zero131 : zeroA Try.prog 131 = some [] := by kernel_rfl
@[simp] theorem struct131 : structA Try.prog 131 = some ([(0, 0)], []) := by kernel_rfl
@[simp] theorem fo131_0 : fieldO Try.prog 131 0 = some 0 := by kernel_rfl
@[simp] theorem ft131_0 : fieldT Try.prog 131 0 = some 129 := by kernel_rfl
@[simp] theorem u132 : Try.prog.underlying 132 = some (.int .u8) := by kernel_rfl
@[simp] theorem sz132 : szT Try.prog 132 = some 1 := by kernel_rfl
@[simp] theorem row132 : rowT Try.prog 132 = some false := by kernel_rfl
@[simp] theorem zero132 : zeroA Try.prog 132 = some [(.v (.int .u8 0))] := by kernel_rfl
@[simp] theorem nstruct132 : structA Try.prog 132 = none := by kernel_rfl
@[simp] theorem u133 : Try.prog.underlying 133 = some (.int .u8) := by kernel_rfl
@[simp] theorem sz133 : szT Try.prog 133 = some 1 := by kernel_rfl
@[simp] theorem row133 : rowT Try.prog 133 = some false := by kernel_rfl
@[simp] theorem zero133 : zeroA Try.prog 133 = some [(.v (.int .u8 0))] := by kernel_rfl
@[simp] theorem nstruct133 : structA Try.prog 133 = none := by kernel_rfl
@[simp] theorem sz134 : szT Try.prog 134 = some 1 := by kernel_rfl
@[simp] theorem row134 : rowT Try.prog 134 = some false := by kernel_rfl
@[simp] theorem zero134 : zeroA Try.prog 134 = some [(.v .nilFunc)] := by kernel_rfl
@[simp] theorem nstruct134 : structA Try.prog 134 = none := by kernel_rfl
@[simp] theorem u135 : Try.prog.underlying 135 = some (.pointer 5) := by kernel_rfl
@[simp] theorem sz135 : szT Try.prog 135 = some 1 := by kernel_rfl
@[simp] theorem row135 : rowT Try.prog 135 = some false := by kernel_rfl
@[simp] theorem zero135 : zeroA Try.prog 135 = some [(.v (.pointer none))] := by kernel_rfl
@[simp] theorem nstruct135 : structA Try.prog 135 = none := by kernel_rfl
@[simp] theorem u136 : Try.prog.underlying 136 = some (.int .i32) := by kernel_rfl
@[simp] theorem sz136 : szT Try.prog 136 = some 1 := by kernel_rfl
@[simp] theorem row136 : rowT Try.prog 136 = some false := by kernel_rfl
@[simp] theorem zero136 : zeroA Try.prog 136 = some [(.v (.int .i32 0))] := by kernel_rfl
@[simp] theorem nstruct136 : structA Try.prog 136 = none := by kernel_rfl
@[simp] theorem u137 : Try.prog.underlying 137 = some (.int .i32) := by kernel_rfl
@[simp] theorem sz137 : szT Try.prog 137 = some 1 := by kernel_rfl
@[simp] theorem row137 : rowT Try.prog 137 = some false := by kernel_rfl
@[simp] theorem zero137 : zeroA Try.prog 137 = some [(.v (.int .i32 0))] := by kernel_rfl
@[simp] theorem nstruct137 : structA Try.prog 137 = none := by kernel_rfl
@[simp] theorem sz138 : szT Try.prog 138 = some 11 := by kernel_rfl
@[simp] theorem row138 : rowT Try.prog 138 = some true := by kernel_rfl
@[simp] theorem zero138 : zeroA Try.prog 138 = some [(.v (.int .u64 0)), (.v (.int .u64 0)), (.v (.int .u32 0)), (.v (.int .u8 0)), (.v (.int .u8 0)), (.v (.int .u8 0)), (.v (.int .u8 0)), (.v .nilFunc), (.v (.pointer none)), (.v (.int .i32 0)), (.v (.int .i32 0))] := by kernel_rfl
@[simp] theorem struct138 : structA Try.prog 138 = some ([(0, 1), (1, 1), (2, 1), (3, 1), (4, 1), (5, 1), (6, 1), (7, 1), (8, 1), (9, 1), (10, 1)], [(.v (.int .u64 0)), (.v (.int .u64 0)), (.v (.int .u32 0)), (.v (.int .u8 0)), (.v (.int .u8 0)), (.v (.int .u8 0)), (.v (.int .u8 0)), (.v .nilFunc), (.v (.pointer none)), (.v (.int .i32 0)), (.v (.int .i32 0))]) := by kernel_rfl
@[simp] theorem fo138_0 : fieldO Try.prog 138 0 = some 0 := by kernel_rfl
@[simp] theorem ft138_0 : fieldT Try.prog 138 0 = some 12 := by kernel_rfl
@[simp] theorem fo138_1 : fieldO Try.prog 138 1 = some 1 := by kernel_rfl
@[simp] theorem ft138_1 : fieldT Try.prog 138 1 = some 12 := by kernel_rfl
@[simp] theorem fo138_2 : fieldO Try.prog 138 2 = some 2 := by kernel_rfl
@[simp] theorem ft138_2 : fieldT Try.prog 138 2 = some 110 := by kernel_rfl
@[simp] theorem fo138_3 : fieldO Try.prog 138 3 = some 3 := by kernel_rfl
@[simp] theorem ft138_3 : fieldT Try.prog 138 3 = some 132 := by kernel_rfl
@[simp] theorem fo138_4 : fieldO Try.prog 138 4 = some 4 := by kernel_rfl
@[simp] theorem ft138_4 : fieldT Try.prog 138 4 = some 5 := by kernel_rfl
@[simp] theorem fo138_5 : fieldO Try.prog 138 5 = some 5 := by kernel_rfl
@[simp] theorem ft138_5 : fieldT Try.prog 138 5 = some 5 := by kernel_rfl
@[simp] theorem fo138_6 : fieldO Try.prog 138 6 = some 6 := by kernel_rfl
@[simp] theorem ft138_6 : fieldT Try.prog 138 6 = some 133 := by kernel_rfl
@[simp] theorem fo138_7 : fieldO Try.prog 138 7 = some 7 := by kernel_rfl
@[simp] theorem ft138_7 : fieldT Try.prog 138 7 = some 134 := by kernel_rfl
@[simp] theorem fo138_8 : fieldO Try.prog 138 8 = some 8 := by kernel_rfl
@[simp] theorem ft138_8 : fieldT Try.prog 138 8 = some 135 := by kernel_rfl
@[simp] theorem fo138_9 : fieldO Try.prog 138 9 = some 9 := by kernel_rfl
@[simp] theorem ft138_9 : fieldT Try.prog 138 9 = some 136 := by kernel_rfl
@[simp] theorem fo138_10 : fieldO Try.prog 138 10 = some 10 := by kernel_rfl
@[simp] theorem ft138_10 : fieldT Try.prog 138 10 = some 137 := by kernel_rfl
@[simp] theorem sz139 : szT Try.prog 139 = some 11 := by kernel_rfl
@[simp] theorem row139 : rowT Try.prog 139 = some true := by kernel_rfl
@[simp] theorem zero139 : zeroA Try.prog 139 = some [(.v (.int .u64 0)), (.v (.int .u64 0)), (.v (.int .u32 0)), (.v (.int .u8 0)), (.v (.int .u8 0)), (.v (.int .u8 0)), (.v (.int .u8 0)), (.v .nilFunc), (.v (.pointer none)), (.v (.int .i32 0)), (.v (.int .i32 0))] := by kernel_rfl
@[simp] theorem struct139 : structA Try.prog 139 = some ([(0, 1), (1, 1), (2, 1), (3, 1), (4, 1), (5, 1), (6, 1), (7, 1), (8, 1), (9, 1), (10, 1)], [(.v (.int .u64 0)), (.v (.int .u64 0)), (.v (.int .u32 0)), (.v (.int .u8 0)), (.v (.int .u8 0)), (.v (.int .u8 0)), (.v (.int .u8 0)), (.v .nilFunc), (.v (.pointer none)), (.v (.int .i32 0)), (.v (.int .i32 0))]) := by kernel_rfl
@[simp] theorem fo139_0 : fieldO Try.prog 139 0 = some 0 := by kernel_rfl
@[simp] theorem ft139_0 : fieldT Try.prog 139 0 = some 12 := by kernel_rfl
@[simp] theorem fo139_1 : fieldO Try.prog 139 1 = some 1 := by kernel_rfl
@[simp] theorem ft139_1 : fieldT Try.prog 139 1 = some 12 := by kernel_rfl
@[simp] theorem fo139_2 : fieldO Try.prog 139 2 = some 2 := by kernel_rfl
@[simp] theorem ft139_2 : fieldT Try.prog 139 2 = some 110 := by kernel_rfl
@[simp] theorem fo139_3 : fieldO Try.prog 139 3 = some 3 := by kernel_rfl
@[simp] theorem ft139_3 : fieldT Try.prog 139 3 = some 132 := by kernel_rfl
@[simp] theorem fo139_4 : fieldO Try.prog 139 4 = some 4 := by kernel_rfl
@[simp] theorem ft139_4 : fieldT Try.prog 139 4 = some 5 := by kernel_rfl
@[simp] theorem fo139_5 : fieldO Try.prog 139 5 = some 5 := by kernel_rfl
@[simp] theorem ft139_5 : fieldT Try.prog 139 5 = some 5 := by kernel_rfl
@[simp] theorem fo139_6 : fieldO Try.prog 139 6 = some 6 := by kernel_rfl
@[simp] theorem ft139_6 : fieldT Try.prog 139 6 = some 133 := by kernel_rfl
@[simp] theorem fo139_7 : fieldO Try.prog 139 7 = some 7 := by kernel_rfl
@[simp] theorem ft139_7 : fieldT Try.prog 139 7 = some 134 := by kernel_rfl
@[simp] theorem fo139_8 : fieldO Try.prog 139 8 = some 8 := by kernel_rfl
@[simp] theorem ft139_8 : fieldT Try.prog 139 8 = some 135 := by kernel_rfl
@[simp] theorem fo139_9 : fieldO Try.prog 139 9 = some 9 := by kernel_rfl
@[simp] theorem ft139_9 : fieldT Try.prog 139 9 = some 136 := by kernel_rfl
@[simp] theorem fo139_10 : fieldO Try.prog 139 10 = some 10 := by kernel_rfl
@[simp] theorem ft139_10 : fieldT Try.prog 139 10 = some 137 := by kernel_rfl
@[simp] theorem z1_3 : Go.AW.zero1 Try.prog 3 = some (.v (.int .i64 0)) := by kernel_rfl
end Go.Proofs.Ytdfeadgholpcgaa.Ty
end
