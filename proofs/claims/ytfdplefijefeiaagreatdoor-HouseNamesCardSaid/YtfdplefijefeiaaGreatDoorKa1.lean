/- Functions of the program as own texts. -/
import Derived.Test.YtfdplefijefeiaaGreatDoorK
namespace Go.Proofs.YtfdplefijefeiaaGreatDoor
open Go.Dx
set_option maxRecDepth 100000
/- internal/strconv.FormatInt -/
def d141 : DFunc := ⟨2, [.tmp 4], (.seq (.region [⟨some 4, none, .mov (.c (.str []))⟩])
(.seq (.seq (.region [⟨some 10, none, .mov (.t 1)⟩, ⟨some 11, none, .bin .eql (.t 10) (.c (.int .i64 10))⟩])
(.cond (.t 11) (.seq (.seq (.region [⟨some 12, none, .mov (.t 0)⟩, ⟨some 13, none, .bin .leq (.c (.int .i64 0)) (.t 12)⟩, ⟨some 14, none, .mov (.t 13)⟩, ⟨some 15, some (14, true), .mov (.t 0)⟩, ⟨some 16, some (14, true), .bin .lss (.t 15) (.c (.int .i64 100))⟩, ⟨some 17, none, .pick (.t 14) (.t 16) (.c (.bool false))⟩])
(.cond (.t 17) (.seq (.region [⟨some 18, none, .mov (.t 0)⟩, ⟨some 19, none, .callF 177 [(.t 18)]⟩, ⟨some 4, none, .mov (.t 19)⟩])
.ret) .skip))
(.seq (.region [⟨some 5, none, .alloc [(.int .u8 0), (.int .u8 0), (.int .u8 0), (.int .u8 0), (.int .u8 0), (.int .u8 0), (.int .u8 0), (.int .u8 0), (.int .u8 0), (.int .u8 0), (.int .u8 0), (.int .u8 0), (.int .u8 0), (.int .u8 0), (.int .u8 0), (.int .u8 0), (.int .u8 0), (.int .u8 0), (.int .u8 0), (.int .u8 0), (.int .u8 0), (.int .u8 0), (.int .u8 0), (.int .u8 0)]⟩])
(.seq (.region [⟨some 20, none, .mov (.t 0)⟩, ⟨some 21, none, .convInt .u64 (.t 20)⟩, ⟨some 6, none, .mov (.t 21)⟩])
(.seq (.seq (.region [⟨some 22, none, .mov (.t 0)⟩, ⟨some 23, none, .bin .lss (.t 22) (.c (.int .i64 0))⟩])
(.cond (.t 23) (.region [⟨some 24, none, .mov (.t 6)⟩, ⟨some 25, none, .un .neg (.t 24)⟩, ⟨some 6, none, .mov (.t 25)⟩]) .skip))
(.seq (.region [⟨some 26, none, .mov (.t 6)⟩, ⟨some 27, none, .callF 178 [(.t 26)]⟩, ⟨some 7, none, .mov (.t 27)⟩])
(.seq (.region [⟨some 28, none, .mov (.t 7)⟩, ⟨some 29, none, .bin .add (.c (.int .i64 1)) (.t 28)⟩, ⟨some 30, none, .sliceArr 24 1 (.t 5) (some (.c (.int .i64 1))) (some (.t 29))⟩, ⟨some 31, none, .mov (.t 6)⟩, ⟨some 32, none, .callF 179 [(.t 30), (.t 31)]⟩])
(.seq (.seq (.region [⟨some 33, none, .mov (.t 0)⟩, ⟨some 34, none, .bin .lss (.t 33) (.c (.int .i64 0))⟩])
(.cond (.t 34) (.seq (.region [⟨some 35, none, .indexAddrA 24 1 (.t 5) (.c (.int .i64 0))⟩, ⟨none, none, .store 1 (.t 35) (.c (.int .u8 45))⟩])
(.seq (.region [⟨some 36, none, .mov (.t 7)⟩, ⟨some 37, none, .bin .add (.c (.int .i64 1)) (.t 36)⟩, ⟨some 38, none, .sliceArr 24 1 (.t 5) none (some (.t 37))⟩, ⟨some 39, none, .bytesStr (.t 38)⟩, ⟨some 4, none, .mov (.t 39)⟩])
.ret)) .skip))
(.seq (.region [⟨some 40, none, .mov (.t 7)⟩, ⟨some 41, none, .bin .add (.c (.int .i64 1)) (.t 40)⟩, ⟨some 42, none, .sliceArr 24 1 (.t 5) (some (.c (.int .i64 1))) (some (.t 41))⟩, ⟨some 43, none, .bytesStr (.t 42)⟩, ⟨some 4, none, .mov (.t 43)⟩])
.ret)))))))) .skip))
(.seq (.region [⟨some 45, none, .mov (.t 0)⟩, ⟨some 46, none, .convInt .u64 (.t 45)⟩, ⟨some 47, none, .mov (.t 1)⟩, ⟨some 48, none, .mov (.t 0)⟩, ⟨some 49, none, .bin .lss (.t 48) (.c (.int .i64 0))⟩, ⟨some 50, none, .callF 180 [(.c .nilSlice), (.t 46), (.t 47), (.t 49), (.c (.bool false))]⟩, ⟨some 44, none, .mov (.t 50)⟩, ⟨some 51, none, .extract (.t 44) 0⟩, ⟨some 52, none, .extract (.t 44) 1⟩, ⟨some 8, none, .mov (.t 51)⟩, ⟨some 9, none, .mov (.t 52)⟩])
(.seq (.region [⟨some 53, none, .mov (.t 9)⟩, ⟨some 4, none, .mov (.t 53)⟩])
.ret))))⟩
theorem ok141 : Fok 141 d141 := ⟨_, Tryz.func141, by kernel_rfl⟩
/- stint/record.Put -/
def d149 : DFunc := ⟨1, [.tmp 2, .tmp 3], (.seq (.region [⟨some 1, none, .box (.t 0)⟩, ⟨some 2, none, .mov (.c .nilSlice)⟩, ⟨some 3, none, .mov (.c (.int .i64 0))⟩])
(.seq (.seq (.region [⟨some 9, none, .loadN 19 (.t 1)⟩, ⟨some 10, none, .callF 183 [(.t 9)]⟩, ⟨some 4, none, .mov (.t 10)⟩])
(.seq (.region [⟨some 11, none, .mov (.t 4)⟩, ⟨some 12, none, .bin .neq (.t 11) (.c (.int .i64 0))⟩])
(.cond (.t 12) (.seq (.region [⟨some 13, none, .mov (.t 4)⟩, ⟨some 2, none, .mov (.c .nilSlice)⟩, ⟨some 3, none, .mov (.t 13)⟩])
.ret) .skip)))
(.seq (.region [⟨some 14, none, .loadN 19 (.t 1)⟩, ⟨some 15, none, .callF 184 [(.t 14)]⟩, ⟨some 5, none, .alloc [(.int .i64 0), (.int .i64 0), (.int .i64 0), (.int .i64 0), (.int .i64 0), (.int .i64 0), (.int .i64 0), (.int .i64 0), (.int .i64 0), (.int .i64 0), (.int .i64 0), (.int .i64 0), (.int .i64 0), (.int .i64 0), (.int .i64 0), (.int .i64 0)]⟩, ⟨none, none, .store 16 (.t 5) (.t 15)⟩])
(.seq (.region [⟨some 16, none, .fieldAddr 0 (.t 1)⟩, ⟨some 17, none, .load1 (.t 16)⟩, ⟨some 18, none, .convInt .u8 (.t 17)⟩, ⟨some 19, none, .buildSlice 1 [(.int .u8 0)] [(0, 1, (.t 18))]⟩, ⟨some 6, none, .mov (.t 19)⟩])
(.seq (.seq (.region [⟨some 20, none, .fieldAddr 0 (.t 1)⟩, ⟨some 21, none, .load1 (.t 20)⟩, ⟨some 22, none, .callF 185 [(.t 21)]⟩, ⟨some 23, none, .lenSl (.t 22)⟩, ⟨some 24, none, .mov (.c (.int .i64 0))⟩])
(.block 0 (.loop (.seq (.region [⟨some 25, none, .bin .lss (.t 24) (.t 23)⟩])
(.seq (.cond (.t 25) .skip (.exit 0))
(.seq (.block 1 (.seq (.region [⟨some 26, none, .indexAddrS 1 (.t 22) (.t 24)⟩, ⟨some 27, none, .load1 (.t 26)⟩, ⟨some 8, none, .mov (.t 27)⟩])
(.region [⟨some 28, none, .mov (.t 6)⟩, ⟨some 29, none, .mov (.t 8)⟩, ⟨some 30, none, .indexAddrA 16 1 (.t 5) (.t 29)⟩, ⟨some 31, none, .load1 (.t 30)⟩, ⟨some 32, none, .callF 186 [(.t 31)]⟩, ⟨some 33, none, .append 1 1 [] (.t 28) (.t 32)⟩, ⟨some 6, none, .mov (.t 33)⟩])))
(.region [⟨some 34, none, .bin .add (.t 24) (.c (.int .i64 1))⟩, ⟨some 24, none, .mov (.t 34)⟩])))))))
(.seq (.seq (.region [⟨some 35, none, .fieldAddr 0 (.t 1)⟩, ⟨some 36, none, .load1 (.t 35)⟩, ⟨some 37, none, .bin .eql (.t 36) (.c (.int .i64 2))⟩])
(.cond (.t 37) (.seq (.region [⟨some 38, none, .mov (.t 6)⟩, ⟨some 39, none, .fieldAddr 4 (.t 1)⟩, ⟨some 40, none, .fieldAddr 13 (.t 39)⟩, ⟨some 41, none, .load1 (.t 40)⟩, ⟨some 42, none, .lenStr (.t 41)⟩, ⟨some 43, none, .convInt .u8 (.t 42)⟩, ⟨some 44, none, .buildSlice 1 [(.int .u8 0)] [(0, 1, (.t 43))]⟩, ⟨some 45, none, .append 1 1 [] (.t 38) (.t 44)⟩, ⟨some 6, none, .mov (.t 45)⟩])
(.seq (.region [⟨some 46, none, .mov (.t 6)⟩, ⟨some 47, none, .fieldAddr 4 (.t 1)⟩, ⟨some 48, none, .fieldAddr 13 (.t 47)⟩, ⟨some 49, none, .load1 (.t 48)⟩, ⟨some 50, none, .append 1 1 [] (.t 46) (.t 49)⟩, ⟨some 6, none, .mov (.t 50)⟩])
(.region [⟨some 51, none, .mov (.t 6)⟩, ⟨some 52, none, .fieldAddr 4 (.t 1)⟩, ⟨some 53, none, .fieldAddr 14 (.t 52)⟩, ⟨some 54, none, .load1 (.t 53)⟩, ⟨some 55, none, .append 1 1 [] (.t 51) (.t 54)⟩, ⟨some 6, none, .mov (.t 55)⟩]))) .skip))
(.seq (.region [⟨some 56, none, .mov (.t 6)⟩, ⟨some 2, none, .mov (.t 56)⟩, ⟨some 3, none, .mov (.c (.int .i64 0))⟩])
.ret)))))))⟩
theorem ok149 : Fok 149 d149 := ⟨_, Tryz.func149, by kernel_rfl⟩
/- stint/frame.Make -/
def d150 : DFunc := ⟨3, [.tmp 6, .tmp 7], (.seq (.region [⟨some 6, none, .mov (.c .nilSlice)⟩, ⟨some 7, none, .mov (.c (.int .i64 0))⟩])
(.seq (.block 0 (.seq (.region [⟨some 10, none, .mov (.t 0)⟩, ⟨some 11, none, .callF 187 [(.t 10)]⟩, ⟨some 12, none, .un .not (.t 11)⟩, ⟨some 13, none, .mov (.t 12)⟩, ⟨some 14, some (13, false), .mov (.t 1)⟩, ⟨some 15, some (13, false), .callF 187 [(.t 14)]⟩, ⟨some 16, some (13, false), .un .not (.t 15)⟩, ⟨some 17, none, .pick (.t 13) (.c (.bool true)) (.t 16)⟩, ⟨some 9, none, .mov (.t 17)⟩])
(.cond (.t 9) (.seq (.region [⟨some 6, none, .mov (.c .nilSlice)⟩, ⟨some 7, none, .mov (.c (.int .i64 24))⟩])
.ret) (.seq (.region [⟨some 19, none, .mov (.t 2)⟩, ⟨some 20, none, .lenSl (.t 19)⟩, ⟨some 21, none, .bin .eql (.t 20) (.c (.int .i64 0))⟩, ⟨some 22, none, .mov (.t 21)⟩, ⟨some 23, some (22, false), .mov (.t 2)⟩, ⟨some 24, some (22, false), .lenSl (.t 23)⟩, ⟨some 25, some (22, false), .bin .gtr (.t 24) (.c (.int .i64 66000))⟩, ⟨some 26, none, .pick (.t 22) (.c (.bool true)) (.t 25)⟩, ⟨some 18, none, .mov (.t 26)⟩])
(.cond (.t 18) (.seq (.region [⟨some 6, none, .mov (.c .nilSlice)⟩, ⟨some 7, none, .mov (.c (.int .i64 22))⟩])
.ret) .skip)))))
(.seq (.region [⟨some 27, none, .mov (.t 2)⟩, ⟨some 28, none, .lenSl (.t 27)⟩, ⟨some 29, none, .callF 188 [(.t 28), (.c (.int .i64 4))]⟩, ⟨some 8, none, .mov (.t 29)⟩])
(.seq (.region [⟨some 30, none, .mov (.t 8)⟩, ⟨some 31, none, .mov (.t 0)⟩, ⟨some 32, none, .mov (.t 1)⟩, ⟨some 33, none, .mov (.t 2)⟩, ⟨some 34, none, .callF 189 [(.t 31), (.t 32), (.t 33)]⟩, ⟨some 35, none, .callF 188 [(.t 34), (.c (.int .i64 4))]⟩, ⟨some 36, none, .append 1 1 [] (.t 30) (.t 35)⟩, ⟨some 8, none, .mov (.t 36)⟩])
(.seq (.region [⟨some 37, none, .mov (.t 8)⟩, ⟨some 38, none, .mov (.t 2)⟩, ⟨some 39, none, .append 1 1 [] (.t 37) (.t 38)⟩, ⟨some 6, none, .mov (.t 39)⟩, ⟨some 7, none, .mov (.c (.int .i64 0))⟩])
.ret)))))⟩
theorem ok150 : Fok 150 d150 := ⟨_, Tryz.func150, by kernel_rfl⟩
/- slices.Sort[[]string,string] -/
def d151 : DFunc := ⟨1, [], (.seq (.region [⟨some 3, none, .mov (.t 0)⟩, ⟨some 4, none, .lenSl (.t 3)⟩, ⟨some 2, none, .mov (.t 4)⟩])
(.region [⟨some 5, none, .mov (.t 0)⟩, ⟨some 6, none, .mov (.t 2)⟩, ⟨some 7, none, .mov (.t 2)⟩, ⟨some 8, none, .convInt .u64 (.t 7)⟩, ⟨some 9, none, .callF 191 [(.t 8)]⟩, ⟨some 10, none, .callF 190 [(.t 5), (.c (.int .i64 0)), (.t 6), (.t 9)]⟩]))⟩
theorem ok151 : Fok 151 d151 := ⟨_, Tryz.func151, by kernel_rfl⟩
/- (*stint/intake.Intake).take -/
def d153 : DFunc := ⟨2, [.tmp 4], (.seq (.region [⟨some 4, none, .mov (.c .nilSlice)⟩])
(.seq (.region [⟨some 6, none, .mov (.t 0)⟩, ⟨some 7, none, .nilCheck (.t 6)⟩, ⟨some 8, none, .fieldAddr 2 (.t 7)⟩, ⟨some 9, none, .load1 (.t 8)⟩, ⟨some 10, none, .mov (.t 1)⟩, ⟨some 11, none, .sliceSl 1 (.t 9) none (some (.t 10)) none⟩, ⟨some 5, none, .mov (.t 11)⟩])
(.seq (.region [⟨some 12, none, .mov (.t 0)⟩, ⟨some 13, none, .mov (.t 0)⟩, ⟨some 14, none, .nilCheck (.t 13)⟩, ⟨some 15, none, .fieldAddr 2 (.t 14)⟩, ⟨some 16, none, .load1 (.t 15)⟩, ⟨some 17, none, .mov (.t 1)⟩, ⟨some 18, none, .sliceSl 1 (.t 16) (some (.t 17)) none none⟩, ⟨some 19, none, .nilCheck (.t 12)⟩, ⟨some 20, none, .fieldAddr 2 (.t 19)⟩, ⟨none, none, .store 1 (.t 20) (.t 18)⟩])
(.seq (.region [⟨some 21, none, .mov (.t 5)⟩, ⟨some 4, none, .mov (.t 21)⟩])
.ret))))⟩
theorem ok153 : Fok 153 d153 := ⟨_, Tryz.func153, by kernel_rfl⟩
/- stint/intake.body -/
def d154 : DFunc := ⟨1, [.cell 2 3 true], (.seq (.region [⟨some 2, none, .alloc [(.int .i64 0), (.str []), .nilSlice]⟩])
(.seq (.region [⟨some 4, none, .mov (.t 0)⟩, ⟨some 5, none, .lenSl (.t 4)⟩, ⟨some 6, none, .bin .sub (.t 5) (.c (.int .i64 2))⟩, ⟨some 3, none, .mov (.t 6)⟩])
(.seq (.seq (.region [⟨some 7, none, .mov (.t 0)⟩, ⟨some 8, none, .mov (.t 3)⟩, ⟨some 9, none, .indexAddrS 1 (.t 7) (.t 8)⟩, ⟨some 10, none, .load1 (.t 9)⟩, ⟨some 11, none, .bin .neq (.t 10) (.c (.int .u8 13))⟩, ⟨some 12, none, .mov (.t 11)⟩, ⟨some 13, some (12, false), .mov (.t 0)⟩, ⟨some 14, some (12, false), .mov (.t 3)⟩, ⟨some 15, some (12, false), .bin .add (.t 14) (.c (.int .i64 1))⟩, ⟨some 16, some (12, false), .indexAddrS 1 (.t 13) (.t 15)⟩, ⟨some 17, some (12, false), .load1 (.t 16)⟩, ⟨some 18, some (12, false), .bin .neq (.t 17) (.c (.int .u8 10))⟩, ⟨some 19, none, .pick (.t 12) (.c (.bool true)) (.t 18)⟩])
(.cond (.t 19) (.seq (.region [⟨some 20, none, .build [(.int .i64 0), (.str []), .nilSlice] [(0, 1, (.c (.int .i64 5)))]⟩, ⟨none, none, .store 3 (.t 2) (.t 20)⟩])
.ret) .skip))
(.seq (.region [⟨some 21, none, .mov (.t 0)⟩, ⟨some 22, none, .mov (.t 3)⟩, ⟨some 23, none, .sliceSl 1 (.t 21) none (some (.t 22)) none⟩, ⟨some 24, none, .callF 163 [(.t 23)]⟩, ⟨some 25, none, .build [(.int .i64 0), (.str []), .nilSlice] [(0, 1, (.c (.int .i64 3))), (2, 1, (.t 24))]⟩, ⟨none, none, .store 3 (.t 2) (.t 25)⟩])
.ret))))⟩
theorem ok154 : Fok 154 d154 := ⟨_, Tryz.func154, by kernel_rfl⟩
/- internal/stringslite.Cut -/
def d156 : DFunc := ⟨2, [.tmp 4, .tmp 5, .tmp 6], (.seq (.region [⟨some 4, none, .mov (.c (.str []))⟩, ⟨some 5, none, .mov (.c (.str []))⟩, ⟨some 6, none, .mov (.c (.bool false))⟩])
(.seq (.seq (.region [⟨some 8, none, .mov (.t 0)⟩, ⟨some 9, none, .mov (.t 1)⟩, ⟨some 10, none, .callF 196 [(.t 8), (.t 9)]⟩, ⟨some 7, none, .mov (.t 10)⟩])
(.seq (.region [⟨some 11, none, .mov (.t 7)⟩, ⟨some 12, none, .bin .geq (.t 11) (.c (.int .i64 0))⟩])
(.cond (.t 12) (.seq (.draw [(⟨some 13, none, .mov (.t 0)⟩, .pure), (⟨some 14, none, .mov (.t 7)⟩, .pure), (⟨some 15, none, .sliceStr (.t 13) none (some (.t 14))⟩, .pure), (⟨some 16, none, .mov (.t 0)⟩, .pure), (⟨some 17, none, .mov (.t 7)⟩, .pure), (⟨some 18, none, .mov (.t 1)⟩, .pure), (⟨some 19, none, .lenStr (.t 18)⟩, .pure), (⟨some 20, none, .bin .add (.t 17) (.t 19)⟩, .pure), (⟨some 21, none, .sliceStr (.t 16) (some (.t 20)) none⟩, .pure), (⟨some 4, none, .mov (.t 15)⟩, .pure), (⟨some 5, none, .mov (.t 21)⟩, .pure), (⟨some 6, none, .mov (.c (.bool true))⟩, .pure)])
.ret) .skip)))
(.seq (.region [⟨some 22, none, .mov (.t 0)⟩, ⟨some 4, none, .mov (.t 22)⟩, ⟨some 5, none, .mov (.c (.str []))⟩, ⟨some 6, none, .mov (.c (.bool false))⟩])
.ret)))⟩
theorem ok156 : Fok 156 d156 := ⟨_, Tryz.func156, by kernel_rfl⟩
/- strings.Split -/
def d157 : DFunc := ⟨2, [.tmp 4], (.seq (.region [⟨some 4, none, .mov (.c .nilSlice)⟩])
(.seq (.region [⟨some 5, none, .mov (.t 0)⟩, ⟨some 6, none, .mov (.t 1)⟩, ⟨some 7, none, .callF 197 [(.t 5), (.t 6), (.c (.int .i64 0)), (.c (.int .i64 (-1)))]⟩, ⟨some 4, none, .mov (.t 7)⟩])
.ret))⟩
theorem ok157 : Fok 157 d157 := ⟨_, Tryz.func157, by kernel_rfl⟩
/- stint/digits.Parse -/
def d158 : DFunc := ⟨2, [.tmp 4, .tmp 5], (.seq (.region [⟨some 4, none, .mov (.c (.int .i64 0))⟩, ⟨some 5, none, .mov (.c (.bool false))⟩])
(.seq (.seq (.region [⟨some 10, none, .mov (.t 0)⟩, ⟨some 11, none, .bin .eql (.t 10) (.c (.str []))⟩, ⟨some 12, none, .mov (.t 11)⟩, ⟨some 13, some (12, false), .mov (.t 1)⟩, ⟨some 14, some (12, false), .bin .lss (.t 13) (.c (.int .i64 0))⟩, ⟨some 15, none, .pick (.t 12) (.c (.bool true)) (.t 14)⟩])
(.cond (.t 15) (.seq (.region [⟨some 4, none, .mov (.c (.int .i64 0))⟩, ⟨some 5, none, .mov (.c (.bool false))⟩])
.ret) .skip))
(.seq (.region [⟨some 6, none, .mov (.c (.int .i64 0))⟩])
(.seq (.seq (.region [⟨some 16, none, .mov (.t 0)⟩, ⟨some 17, none, .rangeStr (.t 16)⟩])
(.block 0 (.loop (.seq (.region [⟨some 18, none, .nextStr (.t 17)⟩, ⟨some 19, none, .extract (.t 18) 0⟩])
(.seq (.cond (.t 19) .skip (.exit 0))
(.block 1 (.seq (.region [⟨some 20, none, .extract (.t 18) 2⟩, ⟨some 8, none, .mov (.t 20)⟩])
(.seq (.seq (.region [⟨some 21, none, .mov (.t 8)⟩, ⟨some 22, none, .bin .lss (.t 21) (.c (.int .i32 48))⟩, ⟨some 23, none, .mov (.t 22)⟩, ⟨some 24, some (23, false), .mov (.t 8)⟩, ⟨some 25, some (23, false), .bin .gtr (.t 24) (.c (.int .i32 57))⟩, ⟨some 26, none, .pick (.t 23) (.c (.bool true)) (.t 25)⟩])
(.cond (.t 26) (.seq (.region [⟨some 4, none, .mov (.c (.int .i64 0))⟩, ⟨some 5, none, .mov (.c (.bool false))⟩])
.ret) .skip))
(.seq (.region [⟨some 27, none, .mov (.t 8)⟩, ⟨some 28, none, .bin .sub (.t 27) (.c (.int .i32 48))⟩, ⟨some 29, none, .convInt .i64 (.t 28)⟩, ⟨some 9, none, .mov (.t 29)⟩])
(.seq (.seq (.region [⟨some 30, none, .mov (.t 6)⟩, ⟨some 31, none, .mov (.t 1)⟩, ⟨some 32, none, .bin .quo (.t 31) (.c (.int .i64 10))⟩, ⟨some 33, none, .bin .gtr (.t 30) (.t 32)⟩, ⟨some 34, none, .mov (.t 33)⟩, ⟨some 35, some (34, false), .mov (.t 6)⟩, ⟨some 36, some (34, false), .bin .mul (.t 35) (.c (.int .i64 10))⟩, ⟨some 37, some (34, false), .mov (.t 1)⟩, ⟨some 38, some (34, false), .mov (.t 9)⟩, ⟨some 39, some (34, false), .bin .sub (.t 37) (.t 38)⟩, ⟨some 40, some (34, false), .bin .gtr (.t 36) (.t 39)⟩, ⟨some 41, none, .pick (.t 34) (.c (.bool true)) (.t 40)⟩])
(.cond (.t 41) (.seq (.region [⟨some 4, none, .mov (.c (.int .i64 0))⟩, ⟨some 5, none, .mov (.c (.bool false))⟩])
.ret) .skip))
(.region [⟨some 42, none, .mov (.t 6)⟩, ⟨some 43, none, .bin .mul (.t 42) (.c (.int .i64 10))⟩, ⟨some 44, none, .mov (.t 9)⟩, ⟨some 45, none, .bin .add (.t 43) (.t 44)⟩, ⟨some 6, none, .mov (.t 45)⟩])))))))))))
(.seq (.region [⟨some 46, none, .mov (.t 6)⟩, ⟨some 4, none, .mov (.t 46)⟩, ⟨some 5, none, .mov (.c (.bool true))⟩])
.ret)))))⟩
theorem ok158 : Fok 158 d158 := ⟨_, Tryz.func158, by kernel_rfl⟩
/- slices.Clone[[]byte,byte] -/
def d163 : DFunc := ⟨1, [.tmp 2], (.seq (.region [⟨some 2, none, .mov (.c .nilSlice)⟩])
(.seq (.seq (.region [⟨some 3, none, .mov (.t 0)⟩, ⟨some 4, none, .eqv false (.ref 0) (.t 3) (.c .nilSlice)⟩])
(.cond (.t 4) (.seq (.region [⟨some 2, none, .mov (.c .nilSlice)⟩])
.ret) .skip))
(.seq (.region [⟨some 5, none, .buildSlice 0 [] []⟩, ⟨some 6, none, .mov (.t 0)⟩, ⟨some 7, none, .append 1 1 [] (.t 5) (.t 6)⟩, ⟨some 2, none, .mov (.t 7)⟩])
.ret)))⟩
theorem ok163 : Fok 163 d163 := ⟨_, Tryz.func163, by kernel_rfl⟩
/- stint/yard.check -/
def d164 : DFunc := ⟨1, [.tmp 2], (.seq (.region [⟨some 1, none, .box (.t 0)⟩, ⟨some 2, none, .mov (.c (.int .i64 0))⟩])
(.seq (.seq (.region [⟨some 3, none, .fieldAddr 5 (.t 1)⟩, ⟨some 4, none, .load1 (.t 3)⟩, ⟨some 5, none, .bin .lss (.t 4) (.c (.int .i64 1))⟩, ⟨some 6, none, .mov (.t 5)⟩, ⟨some 7, some (6, false), .fieldAddr 5 (.t 1)⟩, ⟨some 8, some (6, false), .load1 (.t 7)⟩, ⟨some 9, some (6, false), .bin .gtr (.t 8) (.c (.int .i64 4))⟩, ⟨some 10, none, .pick (.t 6) (.c (.bool true)) (.t 9)⟩])
(.cond (.t 10) (.seq (.region [⟨some 2, none, .mov (.c (.int .i64 151))⟩])
.ret) .skip))
(.seq (.seq (.region [⟨some 11, none, .loadN 16 (.t 1)⟩, ⟨some 12, none, .callF 201 [(.t 11)]⟩, ⟨some 13, none, .un .not (.t 12)⟩])
(.cond (.t 13) (.seq (.region [⟨some 2, none, .mov (.c (.int .i64 152))⟩])
.ret) .skip))
(.seq (.region [⟨some 2, none, .mov (.c (.int .i64 0))⟩])
.ret))))⟩
theorem ok164 : Fok 164 d164 := ⟨_, Tryz.func164, by kernel_rfl⟩
/- (*stint/yard.Yard).place -/
def d167 : DFunc := ⟨2, [], (.seq (.region [⟨some 3, none, .box (.t 1)⟩])
(.seq (.draw [(⟨some 6, none, .mov (.t 0)⟩, .pure), (⟨some 7, none, .nilCheck (.t 6)⟩, .pure), (⟨some 8, none, .fieldAddr 1 (.t 7)⟩, .pure), (⟨some 9, none, .load1 (.t 8)⟩, .read []), (⟨some 10, none, .fieldAddr 14 (.t 3)⟩, .pure), (⟨some 11, none, .load1 (.t 10)⟩, .read []), (⟨some 12, none, .lookup true .nilPtr (.t 9) (.t 11) false⟩, .read []), (⟨some 4, none, .mov (.t 12)⟩, .pure)])
(.seq (.seq (.region [⟨some 13, none, .mov (.t 4)⟩, ⟨some 14, none, .eqv false .ptr (.t 13) (.c .nilPtr)⟩])
(.cond (.t 14) (.seq (.region [⟨some 15, none, .callF 86 []⟩, ⟨some 16, none, .callF 86 []⟩, ⟨some 17, none, .callF 86 []⟩, ⟨some 18, none, .build [.nilPtr, .nilPtr, .nilPtr, (.int .i64 0), (.int .i64 0), (.int .i64 0), (.int .i64 0), (.int .i64 0)] [(0, 1, (.t 15)), (1, 1, (.t 16)), (2, 1, (.t 17))]⟩, ⟨some 19, none, .box (.t 18)⟩, ⟨some 4, none, .mov (.t 19)⟩])
(.draw [(⟨some 20, none, .mov (.t 0)⟩, .pure), (⟨some 21, none, .nilCheck (.t 20)⟩, .pure), (⟨some 22, none, .fieldAddr 1 (.t 21)⟩, .pure), (⟨some 23, none, .load1 (.t 22)⟩, .read [7]), (⟨some 24, none, .fieldAddr 14 (.t 3)⟩, .pure), (⟨some 25, none, .load1 (.t 24)⟩, .read [7]), (⟨some 26, none, .mov (.t 4)⟩, .pure), (⟨none, none, .mapUpdate true (.t 23) (.t 25) (.t 26)⟩, .alone 7)])) .skip))
(.seq (.region [⟨some 27, none, .loadN 16 (.t 3)⟩, ⟨some 28, none, .build [(.int .i64 0), (.int .i64 0), (.int .i64 0), (.int .i64 0), (.int .i64 0), (.int .i64 0), (.int .i64 0), (.int .i64 0), (.int .i64 0), (.int .i64 0), (.int .i64 0), (.int .i64 0), (.int .i64 0), (.int .i64 0), (.str []), .nilSlice, (.int .i64 0), (.int .i64 0), (.int .i64 0)] [(0, 16, (.t 27))]⟩, ⟨some 5, none, .alloc [(.int .i64 0), (.int .i64 0), (.int .i64 0), (.int .i64 0), (.int .i64 0), (.int .i64 0), (.int .i64 0), (.int .i64 0), (.int .i64 0), (.int .i64 0), (.int .i64 0), (.int .i64 0), (.int .i64 0), (.int .i64 0), (.str []), .nilSlice, (.int .i64 0), (.int .i64 0), (.int .i64 0)]⟩, ⟨none, none, .store 19 (.t 5) (.t 28)⟩])
(.seq (.seq (.region [⟨some 29, none, .fieldAddr 5 (.t 3)⟩, ⟨some 30, none, .load1 (.t 29)⟩])
(.block 0 (.seq (.region [⟨some 32, none, .bin .eql (.t 30) (.c (.int .i64 1))⟩, ⟨some 31, none, .mov (.t 32)⟩])
(.cond (.t 31) (.draw [(⟨some 33, none, .mov (.t 4)⟩, .pure), (⟨some 34, none, .nilCheck (.t 33)⟩, .pure), (⟨some 35, none, .fieldAddr 0 (.t 34)⟩, .pure), (⟨some 36, none, .load1 (.t 35)⟩, .read [11, 9]), (⟨some 37, none, .fieldAddr 1 (.t 3)⟩, .pure), (⟨some 38, none, .load1 (.t 37)⟩, .read [11, 9, 8]), (⟨some 39, none, .fieldAddr 0 (.t 3)⟩, .pure), (⟨some 40, none, .load1 (.t 39)⟩, .read [11, 9, 8]), (⟨some 41, none, .build [(.int .i64 0), (.int .i64 0)] [(0, 1, (.t 38)), (1, 1, (.t 40))]⟩, .alone 8), (⟨some 42, none, .callF 204 [(.t 36), (.t 41)]⟩, .alone 9), (⟨some 43, none, .fieldAddr 16 (.t 5)⟩, .pure), (⟨none, none, .store 1 (.t 43) (.t 42)⟩, .alone 11)]) (.seq (.region [⟨some 45, none, .bin .eql (.t 30) (.c (.int .i64 2))⟩, ⟨some 44, none, .mov (.t 45)⟩])
(.cond (.t 44) (.seq (.draw [(⟨some 46, none, .mov (.t 4)⟩, .pure), (⟨some 47, none, .nilCheck (.t 46)⟩, .pure), (⟨some 48, none, .fieldAddr 1 (.t 47)⟩, .pure), (⟨some 49, none, .load1 (.t 48)⟩, .read [11, 9]), (⟨some 50, none, .fieldAddr 6 (.t 3)⟩, .pure), (⟨some 51, none, .load1 (.t 50)⟩, .read [11, 9, 8]), (⟨some 52, none, .fieldAddr 0 (.t 3)⟩, .pure), (⟨some 53, none, .load1 (.t 52)⟩, .read [11, 9, 8]), (⟨some 54, none, .build [(.int .i64 0), (.int .i64 0)] [(0, 1, (.t 51)), (1, 1, (.t 53))]⟩, .alone 8), (⟨some 55, none, .callF 204 [(.t 49), (.t 54)]⟩, .alone 9), (⟨some 56, none, .fieldAddr 16 (.t 5)⟩, .pure), (⟨none, none, .store 1 (.t 56) (.t 55)⟩, .alone 11)])
(.draw [(⟨some 57, none, .mov (.t 0)⟩, .pure), (⟨some 58, none, .nilCheck (.t 57)⟩, .pure), (⟨some 59, none, .fieldAddr 2 (.t 58)⟩, .pure), (⟨some 60, none, .load1 (.t 59)⟩, .read [11, 9]), (⟨some 61, none, .fieldAddr 6 (.t 3)⟩, .pure), (⟨some 62, none, .load1 (.t 61)⟩, .read [11, 9, 8]), (⟨some 63, none, .fieldAddr 0 (.t 3)⟩, .pure), (⟨some 64, none, .load1 (.t 63)⟩, .read [11, 9, 8]), (⟨some 65, none, .build [(.int .i64 0), (.int .i64 0)] [(0, 1, (.t 62)), (1, 1, (.t 64))]⟩, .alone 8), (⟨some 66, none, .callF 204 [(.t 60), (.t 65)]⟩, .alone 9), (⟨some 67, none, .fieldAddr 17 (.t 5)⟩, .pure), (⟨none, none, .store 1 (.t 67) (.t 66)⟩, .alone 11)])) (.seq (.region [⟨some 69, none, .bin .eql (.t 30) (.c (.int .i64 3))⟩, ⟨some 68, none, .mov (.t 69)⟩])
(.cond (.t 68) (.seq (.draw [(⟨some 70, none, .mov (.t 0)⟩, .pure), (⟨some 71, none, .nilCheck (.t 70)⟩, .pure), (⟨some 72, none, .fieldAddr 3 (.t 71)⟩, .pure), (⟨some 73, none, .load1 (.t 72)⟩, .read [11, 9]), (⟨some 74, none, .fieldAddr 6 (.t 3)⟩, .pure), (⟨some 75, none, .load1 (.t 74)⟩, .read [11, 9, 8]), (⟨some 76, none, .fieldAddr 0 (.t 3)⟩, .pure), (⟨some 77, none, .load1 (.t 76)⟩, .read [11, 9, 8]), (⟨some 78, none, .build [(.int .i64 0), (.int .i64 0)] [(0, 1, (.t 75)), (1, 1, (.t 77))]⟩, .alone 8), (⟨some 79, none, .callF 204 [(.t 73), (.t 78)]⟩, .alone 9), (⟨some 80, none, .fieldAddr 17 (.t 5)⟩, .pure), (⟨none, none, .store 1 (.t 80) (.t 79)⟩, .alone 11)])
(.seq (.seq (.draw [(⟨some 81, none, .mov (.t 0)⟩, .pure), (⟨some 82, none, .nilCheck (.t 81)⟩, .pure), (⟨some 83, none, .fieldAddr 4 (.t 82)⟩, .pure), (⟨some 84, none, .load1 (.t 83)⟩, .read []), (⟨some 85, none, .fieldAddr 8 (.t 3)⟩, .pure), (⟨some 86, none, .load1 (.t 85)⟩, .read []), (⟨some 87, none, .lookup false .nilPtr (.t 84) (.t 86) false⟩, .read []), (⟨some 88, none, .eqv false .ptr (.t 87) (.c .nilPtr)⟩, .pure)])
(.cond (.t 88) (.draw [(⟨some 89, none, .mov (.t 0)⟩, .pure), (⟨some 90, none, .nilCheck (.t 89)⟩, .pure), (⟨some 91, none, .fieldAddr 4 (.t 90)⟩, .pure), (⟨some 92, none, .load1 (.t 91)⟩, .read [7]), (⟨some 93, none, .fieldAddr 8 (.t 3)⟩, .pure), (⟨some 94, none, .load1 (.t 93)⟩, .read [7]), (⟨some 95, none, .callF 86 []⟩, .alone 6), (⟨none, none, .mapUpdate false (.t 92) (.t 94) (.t 95)⟩, .alone 7)]) .skip))
(.draw [(⟨some 96, none, .mov (.t 0)⟩, .pure), (⟨some 97, none, .nilCheck (.t 96)⟩, .pure), (⟨some 98, none, .fieldAddr 4 (.t 97)⟩, .pure), (⟨some 99, none, .load1 (.t 98)⟩, .read [14, 12]), (⟨some 100, none, .fieldAddr 8 (.t 3)⟩, .pure), (⟨some 101, none, .load1 (.t 100)⟩, .read [14, 12]), (⟨some 102, none, .lookup false .nilPtr (.t 99) (.t 101) false⟩, .read [14, 12]), (⟨some 103, none, .fieldAddr 6 (.t 3)⟩, .pure), (⟨some 104, none, .load1 (.t 103)⟩, .read [14, 12, 11]), (⟨some 105, none, .fieldAddr 0 (.t 3)⟩, .pure), (⟨some 106, none, .load1 (.t 105)⟩, .read [14, 12, 11]), (⟨some 107, none, .build [(.int .i64 0), (.int .i64 0)] [(0, 1, (.t 104)), (1, 1, (.t 106))]⟩, .alone 11), (⟨some 108, none, .callF 204 [(.t 102), (.t 107)]⟩, .alone 12), (⟨some 109, none, .fieldAddr 18 (.t 5)⟩, .pure), (⟨none, none, .store 1 (.t 109) (.t 108)⟩, .alone 14)]))) (.seq (.region [⟨some 111, none, .bin .eql (.t 30) (.c (.int .i64 4))⟩, ⟨some 110, none, .mov (.t 111)⟩])
(.cond (.t 110) (.draw [(⟨some 112, none, .mov (.t 4)⟩, .pure), (⟨some 113, none, .nilCheck (.t 112)⟩, .pure), (⟨some 114, none, .fieldAddr 2 (.t 113)⟩, .pure), (⟨some 115, none, .load1 (.t 114)⟩, .read [11, 9]), (⟨some 116, none, .fieldAddr 7 (.t 3)⟩, .pure), (⟨some 117, none, .load1 (.t 116)⟩, .read [11, 9, 8]), (⟨some 118, none, .fieldAddr 0 (.t 3)⟩, .pure), (⟨some 119, none, .load1 (.t 118)⟩, .read [11, 9, 8]), (⟨some 120, none, .build [(.int .i64 0), (.int .i64 0)] [(0, 1, (.t 117)), (1, 1, (.t 119))]⟩, .alone 8), (⟨some 121, none, .callF 204 [(.t 115), (.t 120)]⟩, .alone 9), (⟨some 122, none, .fieldAddr 16 (.t 5)⟩, .pure), (⟨none, none, .store 1 (.t 122) (.t 121)⟩, .alone 11)]) .skip))))))))))
(.seq (.draw [(⟨some 123, none, .mov (.t 0)⟩, .pure), (⟨some 124, none, .nilCheck (.t 123)⟩, .pure), (⟨some 125, none, .fieldAddr 0 (.t 124)⟩, .pure), (⟨some 126, none, .load1 (.t 125)⟩, .read [7]), (⟨some 127, none, .fieldAddr 0 (.t 3)⟩, .pure), (⟨some 128, none, .load1 (.t 127)⟩, .read [7]), (⟨some 129, none, .loadN 19 (.t 5)⟩, .read [7]), (⟨none, none, .mapUpdate false (.t 126) (.t 128) (.t 129)⟩, .alone 7)])
(.seq (.draw [(⟨some 130, none, .mov (.t 4)⟩, .pure), (⟨some 131, none, .nilCheck (.t 130)⟩, .pure), (⟨some 132, none, .fieldAddr 3 (.t 131)⟩, .pure), (⟨some 133, none, .loadN 16 (.t 3)⟩, .read [4]), (⟨some 134, none, .callF 203 [(.t 132), (.t 133), (.c (.int .i64 1))]⟩, .alone 4)])
(.draw [(⟨some 135, none, .mov (.t 0)⟩, .pure), (⟨some 136, none, .nilCheck (.t 135)⟩, .pure), (⟨some 137, none, .fieldAddr 5 (.t 136)⟩, .pure), (⟨some 138, none, .loadN 16 (.t 3)⟩, .read [4]), (⟨some 139, none, .callF 203 [(.t 137), (.t 138), (.c (.int .i64 1))]⟩, .alone 4)]))))))))⟩
theorem ok167 : Fok 167 d167 := ⟨_, Tryz.func167, by kernel_rfl⟩
/- internal/stringslite.IndexByte -/
def d176 : DFunc := ⟨2, [.tmp 4], (.seq (.region [⟨some 4, none, .mov (.c (.int .i64 0))⟩])
(.seq (.region [⟨some 5, none, .mov (.t 0)⟩, ⟨some 6, none, .mov (.t 1)⟩, ⟨some 7, none, .callF 211 [(.t 5), (.t 6)]⟩, ⟨some 4, none, .mov (.t 7)⟩])
.ret))⟩
theorem ok176 : Fok 176 d176 := ⟨_, Tryz.func176, by kernel_rfl⟩
/- internal/strconv.small -/
def d177 : DFunc := ⟨1, [.tmp 2], (.seq (.region [⟨some 2, none, .mov (.c (.str []))⟩])
(.seq (.seq (.region [⟨some 3, none, .mov (.t 0)⟩, ⟨some 4, none, .bin .lss (.t 3) (.c (.int .i64 10))⟩])
(.cond (.t 4) (.seq (.region [⟨some 5, none, .mov (.t 0)⟩, ⟨some 6, none, .mov (.t 0)⟩, ⟨some 7, none, .bin .add (.t 6) (.c (.int .i64 1))⟩, ⟨some 8, none, .sliceStr (.c (.str [48, 49, 50, 51, 52, 53, 54, 55, 56, 57, 97, 98, 99, 100, 101, 102, 103, 104, 105, 106, 107, 108, 109, 110, 111, 112, 113, 114, 115, 116, 117, 118, 119, 120, 121, 122])) (some (.t 5)) (some (.t 7))⟩, ⟨some 2, none, .mov (.t 8)⟩])
.ret) .skip))
(.seq (.region [⟨some 9, none, .mov (.t 0)⟩, ⟨some 10, none, .bin .mul (.t 9) (.c (.int .i64 2))⟩, ⟨some 11, none, .mov (.t 0)⟩, ⟨some 12, none, .bin .mul (.t 11) (.c (.int .i64 2))⟩, ⟨some 13, none, .bin .add (.t 12) (.c (.int .i64 2))⟩, ⟨some 14, none, .sliceStr (.c (.str [48, 48, 48, 49, 48, 50, 48, 51, 48, 52, 48, 53, 48, 54, 48, 55, 48, 56, 48, 57, 49, 48, 49, 49, 49, 50, 49, 51, 49, 52, 49, 53, 49, 54, 49, 55, 49, 56, 49, 57, 50, 48, 50, 49, 50, 50, 50, 51, 50, 52, 50, 53, 50, 54, 50, 55, 50, 56, 50, 57, 51, 48, 51, 49, 51, 50, 51, 51, 51, 52, 51, 53, 51, 54, 51, 55, 51, 56, 51, 57, 52, 48, 52, 49, 52, 50, 52, 51, 52, 52, 52, 53, 52, 54, 52, 55, 52, 56, 52, 57, 53, 48, 53, 49, 53, 50, 53, 51, 53, 52, 53, 53, 53, 54, 53, 55, 53, 56, 53, 57, 54, 48, 54, 49, 54, 50, 54, 51, 54, 52, 54, 53, 54, 54, 54, 55, 54, 56, 54, 57, 55, 48, 55, 49, 55, 50, 55, 51, 55, 52, 55, 53, 55, 54, 55, 55, 55, 56, 55, 57, 56, 48, 56, 49, 56, 50, 56, 51, 56, 52, 56, 53, 56, 54, 56, 55, 56, 56, 56, 57, 57, 48, 57, 49, 57, 50, 57, 51, 57, 52, 57, 53, 57, 54, 57, 55, 57, 56, 57, 57])) (some (.t 10)) (some (.t 13))⟩, ⟨some 2, none, .mov (.t 14)⟩])
.ret)))⟩
theorem ok177 : Fok 177 d177 := ⟨_, Tryz.func177, by kernel_rfl⟩
/- stint/record.Check -/
def d183 : DFunc := ⟨1, [.tmp 2], (.seq (.region [⟨some 1, none, .box (.t 0)⟩, ⟨some 2, none, .mov (.c (.int .i64 0))⟩])
(.seq (.region [⟨some 6, none, .fieldAddr 0 (.t 1)⟩, ⟨some 7, none, .load1 (.t 6)⟩, ⟨some 8, none, .callF 185 [(.t 7)]⟩, ⟨some 3, none, .mov (.t 8)⟩])
(.seq (.seq (.region [⟨some 9, none, .mov (.t 3)⟩, ⟨some 10, none, .eqv false (.ref 0) (.t 9) (.c .nilSlice)⟩])
(.cond (.t 10) (.seq (.region [⟨some 2, none, .mov (.c (.int .i64 100))⟩])
.ret) .skip))
(.seq (.region [⟨some 11, none, .loadN 19 (.t 1)⟩, ⟨some 12, none, .callF 184 [(.t 11)]⟩, ⟨some 4, none, .alloc [(.int .i64 0), (.int .i64 0), (.int .i64 0), (.int .i64 0), (.int .i64 0), (.int .i64 0), (.int .i64 0), (.int .i64 0), (.int .i64 0), (.int .i64 0), (.int .i64 0), (.int .i64 0), (.int .i64 0), (.int .i64 0), (.int .i64 0), (.int .i64 0)]⟩, ⟨none, none, .store 16 (.t 4) (.t 12)⟩])
(.seq (.region [⟨some 13, none, .fieldAddr 4 (.t 1)⟩, ⟨some 14, none, .fieldAddr 13 (.t 13)⟩, ⟨some 15, none, .load1 (.t 14)⟩, ⟨some 16, none, .bin .eql (.t 15) (.c (.str []))⟩, ⟨some 17, none, .mov (.t 16)⟩, ⟨some 18, some (17, true), .fieldAddr 4 (.t 1)⟩, ⟨some 19, some (17, true), .fieldAddr 14 (.t 18)⟩, ⟨some 20, some (17, true), .load1 (.t 19)⟩, ⟨some 21, some (17, true), .lenSl (.t 20)⟩, ⟨some 22, some (17, true), .bin .eql (.t 21) (.c (.int .i64 0))⟩, ⟨some 23, none, .pick (.t 17) (.t 22) (.c (.bool false))⟩, ⟨some 5, none, .mov (.t 23)⟩])
(.seq (.seq (.region [⟨some 24, none, .fieldAddr 0 (.t 1)⟩, ⟨some 25, none, .load1 (.t 24)⟩, ⟨some 26, none, .bin .eql (.t 25) (.c (.int .i64 2))⟩])
(.cond (.t 26) (.region [⟨some 27, none, .fieldAddr 4 (.t 1)⟩, ⟨some 28, none, .fieldAddr 13 (.t 27)⟩, ⟨some 29, none, .load1 (.t 28)⟩, ⟨some 30, none, .callF 79 [(.t 29)]⟩, ⟨some 31, none, .mov (.t 30)⟩, ⟨some 32, some (31, true), .fieldAddr 4 (.t 1)⟩, ⟨some 33, some (31, true), .fieldAddr 14 (.t 32)⟩, ⟨some 34, some (31, true), .load1 (.t 33)⟩, ⟨some 35, some (31, true), .lenSl (.t 34)⟩, ⟨some 36, some (31, true), .bin .leq (.t 35) (.c (.int .i64 65535))⟩, ⟨some 37, none, .pick (.t 31) (.t 36) (.c (.bool false))⟩, ⟨some 5, none, .mov (.t 37)⟩]) .skip))
(.seq (.seq (.draw [(⟨some 38, none, .loadN 16 (.t 4)⟩, .read [9]), (⟨some 39, none, .loadN 16 (.t 4)⟩, .read [9, 3]), (⟨some 40, none, .mov (.t 3)⟩, .pure), (⟨some 41, none, .callF 217 [(.t 39), (.t 40)]⟩, .alone 3), (⟨some 42, none, .eqv true (.struct [(0, 1, false, (.prim 1)), (1, 1, false, (.prim 1)), (2, 1, false, (.prim 1)), (3, 1, false, (.prim 1)), (4, 1, false, (.prim 1)), (5, 1, false, (.prim 1)), (6, 1, false, (.prim 1)), (7, 1, false, (.prim 1)), (8, 1, false, (.prim 1)), (9, 1, false, (.prim 1)), (10, 1, false, (.prim 1)), (11, 1, false, (.prim 1)), (12, 1, false, (.prim 1)), (13, 1, false, (.prim 1)), (14, 1, false, (.prim 1)), (15, 1, false, (.prim 1))]) (.t 38) (.t 41)⟩, .pure), (⟨some 43, none, .mov (.t 42)⟩, .pure), (⟨some 44, some (43, false), .loadN 16 (.t 4)⟩, .read [9]), (⟨some 45, some (43, false), .fieldAddr 0 (.t 1)⟩, .pure), (⟨some 46, some (43, false), .load1 (.t 45)⟩, .read [9]), (⟨some 47, some (43, false), .callF 218 [(.t 44), (.t 46)]⟩, .alone 9), (⟨some 48, some (43, false), .un .not (.t 47)⟩, .pure), (⟨some 49, none, .pick (.t 43) (.c (.bool true)) (.t 48)⟩, .pure), (⟨some 50, none, .mov (.t 49)⟩, .pure), (⟨some 51, some (50, false), .mov (.t 5)⟩, .pure), (⟨some 52, some (50, false), .un .not (.t 51)⟩, .pure), (⟨some 53, none, .pick (.t 50) (.c (.bool true)) (.t 52)⟩, .pure)])
(.cond (.t 53) (.seq (.region [⟨some 2, none, .mov (.c (.int .i64 101))⟩])
.ret) .skip))
(.seq (.region [⟨some 2, none, .mov (.c (.int .i64 0))⟩])
.ret))))))))⟩
theorem ok183 : Fok 183 d183 := ⟨_, Tryz.func183, by kernel_rfl⟩
/- stint/record.numbersOf -/
def d184 : DFunc := ⟨1, [.cell 2 16 true], (.seq (.region [⟨some 1, none, .box (.t 0)⟩, ⟨some 2, none, .alloc [(.int .i64 0), (.int .i64 0), (.int .i64 0), (.int .i64 0), (.int .i64 0), (.int .i64 0), (.int .i64 0), (.int .i64 0), (.int .i64 0), (.int .i64 0), (.int .i64 0), (.int .i64 0), (.int .i64 0), (.int .i64 0), (.int .i64 0), (.int .i64 0)]⟩])
(.seq (.draw [(⟨some 5, none, .fieldAddr 4 (.t 1)⟩, .pure), (⟨some 6, none, .loadN 15 (.t 5)⟩, .read [8, 7]), (⟨some 7, none, .fieldAddr 4 (.t 1)⟩, .pure), (⟨some 8, none, .fieldAddr 8 (.t 7)⟩, .pure), (⟨some 9, none, .loadN 5 (.t 8)⟩, .read [8]), (⟨some 3, none, .alloc [(.int .i64 0), (.int .i64 0), (.int .i64 0), (.int .i64 0), (.int .i64 0), (.int .i64 0), (.int .i64 0), (.int .i64 0), (.int .i64 0), (.int .i64 0), (.int .i64 0), (.int .i64 0), (.int .i64 0), (.str []), .nilSlice]⟩, .late), (⟨some 4, none, .alloc [(.int .i64 0), (.int .i64 0), (.int .i64 0), (.int .i64 0), (.int .i64 0)]⟩, .late), (⟨none, none, .store 15 (.t 3) (.t 6)⟩, .alone 7), (⟨none, none, .store 5 (.t 4) (.t 9)⟩, .alone 8)])
(.seq (.region [⟨some 10, none, .fieldAddr 0 (.t 3)⟩, ⟨some 11, none, .load1 (.t 10)⟩, ⟨some 12, none, .fieldAddr 1 (.t 3)⟩, ⟨some 13, none, .load1 (.t 12)⟩, ⟨some 14, none, .fieldAddr 2 (.t 3)⟩, ⟨some 15, none, .load1 (.t 14)⟩, ⟨some 16, none, .fieldAddr 3 (.t 3)⟩, ⟨some 17, none, .load1 (.t 16)⟩, ⟨some 18, none, .fieldAddr 4 (.t 3)⟩, ⟨some 19, none, .load1 (.t 18)⟩, ⟨some 20, none, .fieldAddr 5 (.t 3)⟩, ⟨some 21, none, .load1 (.t 20)⟩, ⟨some 22, none, .fieldAddr 6 (.t 3)⟩, ⟨some 23, none, .load1 (.t 22)⟩, ⟨some 24, none, .fieldAddr 7 (.t 3)⟩, ⟨some 25, none, .load1 (.t 24)⟩, ⟨some 26, none, .fieldAddr 0 (.t 4)⟩, ⟨some 27, none, .load1 (.t 26)⟩, ⟨some 28, none, .fieldAddr 1 (.t 4)⟩, ⟨some 29, none, .load1 (.t 28)⟩, ⟨some 30, none, .fieldAddr 2 (.t 4)⟩, ⟨some 31, none, .load1 (.t 30)⟩, ⟨some 32, none, .fieldAddr 3 (.t 4)⟩, ⟨some 33, none, .load1 (.t 32)⟩, ⟨some 34, none, .fieldAddr 4 (.t 4)⟩, ⟨some 35, none, .load1 (.t 34)⟩, ⟨some 36, none, .fieldAddr 1 (.t 1)⟩, ⟨some 37, none, .load1 (.t 36)⟩, ⟨some 38, none, .fieldAddr 2 (.t 1)⟩, ⟨some 39, none, .load1 (.t 38)⟩, ⟨some 40, none, .fieldAddr 3 (.t 1)⟩, ⟨some 41, none, .load1 (.t 40)⟩, ⟨some 42, none, .build [(.int .i64 0), (.int .i64 0), (.int .i64 0), (.int .i64 0), (.int .i64 0), (.int .i64 0), (.int .i64 0), (.int .i64 0), (.int .i64 0), (.int .i64 0), (.int .i64 0), (.int .i64 0), (.int .i64 0), (.int .i64 0), (.int .i64 0), (.int .i64 0)] [(0, 1, (.t 11)), (1, 1, (.t 13)), (2, 1, (.t 15)), (3, 1, (.t 17)), (4, 1, (.t 19)), (5, 1, (.t 21)), (6, 1, (.t 23)), (7, 1, (.t 25)), (8, 1, (.t 27)), (9, 1, (.t 29)), (10, 1, (.t 31)), (11, 1, (.t 33)), (12, 1, (.t 35)), (13, 1, (.t 37)), (14, 1, (.t 39)), (15, 1, (.t 41))]⟩, ⟨none, none, .store 16 (.t 2) (.t 42)⟩])
.ret)))⟩
theorem ok184 : Fok 184 d184 := ⟨_, Tryz.func184, by kernel_rfl⟩
/- stint/record.of -/
def d185 : DFunc := ⟨1, [.tmp 2], (.seq (.region [⟨some 2, none, .mov (.c .nilSlice)⟩])
(.seq (.seq (.region [⟨some 3, none, .mov (.t 0)⟩])
(.block 0 (.seq (.region [⟨some 5, none, .bin .eql (.t 3) (.c (.int .i64 1))⟩, ⟨some 4, none, .mov (.t 5)⟩])
(.cond (.t 4) (.seq (.region [⟨some 6, none, .buildSlice 2 [(.int .i64 0), (.int .i64 0)] [(0, 1, (.c (.int .i64 13))), (1, 1, (.c (.int .i64 14)))]⟩, ⟨some 2, none, .mov (.t 6)⟩])
.ret) (.seq (.region [⟨some 8, none, .bin .eql (.t 3) (.c (.int .i64 2))⟩, ⟨some 7, none, .mov (.t 8)⟩])
(.cond (.t 7) (.seq (.region [⟨some 9, none, .buildSlice 13 [(.int .i64 0), (.int .i64 0), (.int .i64 0), (.int .i64 0), (.int .i64 0), (.int .i64 0), (.int .i64 0), (.int .i64 0), (.int .i64 0), (.int .i64 0), (.int .i64 0), (.int .i64 0), (.int .i64 0)] [(0, 1, (.c (.int .i64 0))), (1, 1, (.c (.int .i64 1))), (2, 1, (.c (.int .i64 2))), (3, 1, (.c (.int .i64 3))), (4, 1, (.c (.int .i64 4))), (5, 1, (.c (.int .i64 5))), (6, 1, (.c (.int .i64 6))), (7, 1, (.c (.int .i64 7))), (8, 1, (.c (.int .i64 8))), (9, 1, (.c (.int .i64 9))), (10, 1, (.c (.int .i64 10))), (11, 1, (.c (.int .i64 11))), (12, 1, (.c (.int .i64 12)))]⟩, ⟨some 2, none, .mov (.t 9)⟩])
.ret) (.seq (.region [⟨some 11, none, .bin .eql (.t 3) (.c (.int .i64 3))⟩, ⟨some 10, none, .mov (.t 11)⟩])
(.cond (.t 10) (.seq (.region [⟨some 12, none, .buildSlice 11 [(.int .i64 0), (.int .i64 0), (.int .i64 0), (.int .i64 0), (.int .i64 0), (.int .i64 0), (.int .i64 0), (.int .i64 0), (.int .i64 0), (.int .i64 0), (.int .i64 0)] [(0, 1, (.c (.int .i64 0))), (1, 1, (.c (.int .i64 1))), (2, 1, (.c (.int .i64 2))), (3, 1, (.c (.int .i64 5))), (4, 1, (.c (.int .i64 6))), (5, 1, (.c (.int .i64 7))), (6, 1, (.c (.int .i64 8))), (7, 1, (.c (.int .i64 9))), (8, 1, (.c (.int .i64 10))), (9, 1, (.c (.int .i64 11))), (10, 1, (.c (.int .i64 12)))]⟩, ⟨some 2, none, .mov (.t 12)⟩])
.ret) (.seq (.region [⟨some 14, none, .bin .eql (.t 3) (.c (.int .i64 4))⟩, ⟨some 13, none, .mov (.t 14)⟩])
(.cond (.t 13) (.seq (.region [⟨some 15, none, .buildSlice 1 [(.int .i64 0)] [(0, 1, (.c (.int .i64 15)))]⟩, ⟨some 2, none, .mov (.t 15)⟩])
.ret) .skip))))))))))
(.seq (.region [⟨some 2, none, .mov (.c .nilSlice)⟩])
.ret)))⟩
theorem ok185 : Fok 185 d185 := ⟨_, Tryz.func185, by kernel_rfl⟩
/- stint/record.low -/
def d186 : DFunc := ⟨1, [.tmp 2], (.seq (.region [⟨some 2, none, .mov (.c .nilSlice)⟩])
(.seq (.region [⟨some 3, none, .mov (.c .nilSlice)⟩])
(.seq (.seq (.region [⟨some 4, none, .mov (.c (.int .i64 0))⟩])
(.block 0 (.loop (.seq (.region [⟨some 5, none, .bin .lss (.t 4) (.c (.int .i64 8))⟩])
(.seq (.cond (.t 5) .skip (.exit 0))
(.seq (.block 1 (.seq (.region [⟨some 6, none, .mov (.t 3)⟩, ⟨some 7, none, .mov (.t 0)⟩, ⟨some 8, none, .convInt .u8 (.t 7)⟩, ⟨some 9, none, .buildSlice 1 [(.int .u8 0)] [(0, 1, (.t 8))]⟩, ⟨some 10, none, .append 1 1 [] (.t 6) (.t 9)⟩, ⟨some 3, none, .mov (.t 10)⟩])
(.region [⟨some 11, none, .mov (.t 0)⟩, ⟨some 12, none, .bin .shr (.t 11) (.c (.int .u64 8))⟩, ⟨some 0, none, .mov (.t 12)⟩])))
(.region [⟨some 13, none, .bin .add (.t 4) (.c (.int .i64 1))⟩, ⟨some 4, none, .mov (.t 13)⟩])))))))
(.seq (.region [⟨some 14, none, .mov (.t 3)⟩, ⟨some 2, none, .mov (.t 14)⟩])
.ret))))⟩
theorem ok186 : Fok 186 d186 := ⟨_, Tryz.func186, by kernel_rfl⟩
/- stint/frame.placed -/
def d187 : DFunc := ⟨1, [.tmp 2], (.seq (.region [⟨some 2, none, .mov (.c (.bool false))⟩])
(.seq (.region [⟨some 3, none, .mov (.t 0)⟩, ⟨some 4, none, .bin .geq (.t 3) (.c (.int .i64 0))⟩, ⟨some 5, none, .mov (.t 4)⟩, ⟨some 6, some (5, true), .mov (.t 0)⟩, ⟨some 7, some (5, true), .bin .leq (.t 6) (.c (.int .i64 4611686018427387903))⟩, ⟨some 8, none, .pick (.t 5) (.t 7) (.c (.bool false))⟩, ⟨some 2, none, .mov (.t 8)⟩])
.ret))⟩
theorem ok187 : Fok 187 d187 := ⟨_, Tryz.func187, by kernel_rfl⟩
/- stint/frame.laid -/
def d188 : DFunc := ⟨2, [.tmp 4], (.seq (.region [⟨some 4, none, .mov (.c .nilSlice)⟩])
(.seq (.region [⟨some 7, none, .mov (.t 1)⟩, ⟨some 8, none, .mkSlice [(.int .u8 0)] 1 1 (.t 7) (.t 7)⟩, ⟨some 5, none, .mov (.t 8)⟩])
(.seq (.seq (.region [⟨some 9, none, .mov (.t 5)⟩, ⟨some 10, none, .lenSl (.t 9)⟩, ⟨some 11, none, .mov (.c (.int .i64 0))⟩])
(.block 0 (.loop (.seq (.region [⟨some 12, none, .bin .lss (.t 11) (.t 10)⟩])
(.seq (.cond (.t 12) .skip (.exit 0))
(.seq (.block 1 (.seq (.region [⟨some 13, none, .mov (.t 11)⟩, ⟨some 6, none, .mov (.t 13)⟩])
(.region [⟨some 14, none, .mov (.t 5)⟩, ⟨some 15, none, .mov (.t 6)⟩, ⟨some 16, none, .mov (.t 0)⟩, ⟨some 17, none, .mov (.t 6)⟩, ⟨some 18, none, .bin .mul (.c (.int .i64 8)) (.t 17)⟩, ⟨some 19, none, .bin .shr (.t 16) (.t 18)⟩, ⟨some 20, none, .convInt .u8 (.t 19)⟩, ⟨some 21, none, .indexAddrS 1 (.t 14) (.t 15)⟩, ⟨none, none, .store 1 (.t 21) (.t 20)⟩])))
(.region [⟨some 22, none, .bin .add (.t 11) (.c (.int .i64 1))⟩, ⟨some 11, none, .mov (.t 22)⟩])))))))
(.seq (.region [⟨some 23, none, .mov (.t 5)⟩, ⟨some 4, none, .mov (.t 23)⟩])
.ret))))⟩
theorem ok188 : Fok 188 d188 := ⟨_, Tryz.func188, by kernel_rfl⟩
/- stint/frame.sum -/
def d189 : DFunc := ⟨3, [.tmp 6], (.seq (.region [⟨some 6, none, .mov (.c (.int .i64 0))⟩])
(.seq (.region [⟨some 9, none, .callF 219 []⟩, ⟨some 7, none, .alloc [(.int .u32 0), (.int .u32 0), (.int .u32 0), (.int .u32 0), (.int .u32 0), (.int .u32 0), (.int .u32 0), (.int .u32 0), (.int .u32 0), (.int .u32 0), (.int .u32 0), (.int .u32 0), (.int .u32 0), (.int .u32 0), (.int .u32 0), (.int .u32 0)]⟩, ⟨none, none, .store 16 (.t 7) (.t 9)⟩])
(.seq (.region [⟨some 10, none, .mov (.t 0)⟩, ⟨some 11, none, .callF 188 [(.t 10), (.c (.int .i64 8))]⟩, ⟨some 12, none, .callF 220 [(.c (.int .u32 4294967295)), (.t 7), (.t 11)]⟩, ⟨some 8, none, .mov (.t 12)⟩])
(.seq (.region [⟨some 13, none, .mov (.t 8)⟩, ⟨some 14, none, .mov (.t 1)⟩, ⟨some 15, none, .callF 188 [(.t 14), (.c (.int .i64 8))]⟩, ⟨some 16, none, .callF 220 [(.t 13), (.t 7), (.t 15)]⟩, ⟨some 8, none, .mov (.t 16)⟩])
(.seq (.region [⟨some 17, none, .mov (.t 8)⟩, ⟨some 18, none, .mov (.t 2)⟩, ⟨some 19, none, .callF 220 [(.t 17), (.t 7), (.t 18)]⟩, ⟨some 20, none, .un .xor (.t 19)⟩, ⟨some 21, none, .convInt .i64 (.t 20)⟩, ⟨some 6, none, .mov (.t 21)⟩])
.ret)))))⟩
theorem ok189 : Fok 189 d189 := ⟨_, Tryz.func189, by kernel_rfl⟩
/- slices.pdqsortOrdered[string] -/
def d190 : DFunc := ⟨4, [], (.seq (.region [⟨some 8, none, .mov (.c (.bool true))⟩])
(.seq (.region [⟨some 9, none, .mov (.c (.bool true))⟩])
(.block 0 (.loop (.block 1 (.seq (.region [⟨some 19, none, .mov (.t 2)⟩, ⟨some 20, none, .mov (.t 1)⟩, ⟨some 21, none, .bin .sub (.t 19) (.t 20)⟩, ⟨some 10, none, .mov (.t 21)⟩])
(.seq (.seq (.region [⟨some 22, none, .mov (.t 10)⟩, ⟨some 23, none, .bin .leq (.t 22) (.c (.int .i64 12))⟩])
(.cond (.t 23) (.seq (.region [⟨some 24, none, .mov (.t 0)⟩, ⟨some 25, none, .mov (.t 1)⟩, ⟨some 26, none, .mov (.t 2)⟩, ⟨some 27, none, .callF 221 [(.t 24), (.t 25), (.t 26)]⟩])
.ret) .skip))
(.seq (.seq (.region [⟨some 28, none, .mov (.t 3)⟩, ⟨some 29, none, .bin .eql (.t 28) (.c (.int .i64 0))⟩])
(.cond (.t 29) (.seq (.region [⟨some 30, none, .mov (.t 0)⟩, ⟨some 31, none, .mov (.t 1)⟩, ⟨some 32, none, .mov (.t 2)⟩, ⟨some 33, none, .callF 222 [(.t 30), (.t 31), (.t 32)]⟩])
.ret) .skip))
(.seq (.seq (.region [⟨some 34, none, .mov (.t 8)⟩, ⟨some 35, none, .un .not (.t 34)⟩])
(.cond (.t 35) (.seq (.region [⟨some 36, none, .mov (.t 0)⟩, ⟨some 37, none, .mov (.t 1)⟩, ⟨some 38, none, .mov (.t 2)⟩, ⟨some 39, none, .callF 223 [(.t 36), (.t 37), (.t 38)]⟩])
(.region [⟨some 40, none, .mov (.t 3)⟩, ⟨some 41, none, .bin .sub (.t 40) (.c (.int .i64 1))⟩, ⟨some 3, none, .mov (.t 41)⟩])) .skip))
(.seq (.region [⟨some 43, none, .mov (.t 0)⟩, ⟨some 44, none, .mov (.t 1)⟩, ⟨some 45, none, .mov (.t 2)⟩, ⟨some 46, none, .callF 224 [(.t 43), (.t 44), (.t 45)]⟩, ⟨some 42, none, .mov (.t 46)⟩, ⟨some 47, none, .extract (.t 42) 0⟩, ⟨some 48, none, .extract (.t 42) 1⟩, ⟨some 11, none, .mov (.t 47)⟩, ⟨some 12, none, .mov (.t 48)⟩])
(.seq (.seq (.region [⟨some 49, none, .mov (.t 12)⟩, ⟨some 50, none, .bin .eql (.t 49) (.c (.int .i64 2))⟩])
(.cond (.t 50) (.seq (.region [⟨some 51, none, .mov (.t 0)⟩, ⟨some 52, none, .mov (.t 1)⟩, ⟨some 53, none, .mov (.t 2)⟩, ⟨some 54, none, .callF 225 [(.t 51), (.t 52), (.t 53)]⟩])
(.seq (.region [⟨some 55, none, .mov (.t 2)⟩, ⟨some 56, none, .bin .sub (.t 55) (.c (.int .i64 1))⟩, ⟨some 57, none, .mov (.t 11)⟩, ⟨some 58, none, .mov (.t 1)⟩, ⟨some 59, none, .bin .sub (.t 57) (.t 58)⟩, ⟨some 60, none, .bin .sub (.t 56) (.t 59)⟩, ⟨some 11, none, .mov (.t 60)⟩])
(.region [⟨some 12, none, .mov (.c (.int .i64 1))⟩]))) .skip))
(.seq (.seq (.region [⟨some 61, none, .mov (.t 8)⟩, ⟨some 62, none, .mov (.t 61)⟩, ⟨some 63, some (62, true), .mov (.t 9)⟩, ⟨some 64, none, .pick (.t 62) (.t 63) (.c (.bool false))⟩, ⟨some 65, none, .mov (.t 64)⟩, ⟨some 66, some (65, true), .mov (.t 12)⟩, ⟨some 67, some (65, true), .bin .eql (.t 66) (.c (.int .i64 1))⟩, ⟨some 68, none, .pick (.t 65) (.t 67) (.c (.bool false))⟩])
(.cond (.t 68) (.seq (.region [⟨some 69, none, .mov (.t 0)⟩, ⟨some 70, none, .mov (.t 1)⟩, ⟨some 71, none, .mov (.t 2)⟩, ⟨some 72, none, .callF 226 [(.t 69), (.t 70), (.t 71)]⟩])
(.cond (.t 72) .ret .skip)) .skip))
(.seq (.seq (.draw [(⟨some 73, none, .mov (.t 1)⟩, .pure), (⟨some 74, none, .bin .gtr (.t 73) (.c (.int .i64 0))⟩, .pure), (⟨some 75, none, .mov (.t 74)⟩, .pure), (⟨some 76, some (75, true), .mov (.t 0)⟩, .pure), (⟨some 77, some (75, true), .mov (.t 1)⟩, .pure), (⟨some 78, some (75, true), .bin .sub (.t 77) (.c (.int .i64 1))⟩, .pure), (⟨some 79, some (75, true), .indexAddrS 1 (.t 76) (.t 78)⟩, .pure), (⟨some 80, some (75, true), .load1 (.t 79)⟩, .read [12]), (⟨some 81, some (75, true), .mov (.t 0)⟩, .pure), (⟨some 82, some (75, true), .mov (.t 11)⟩, .pure), (⟨some 83, some (75, true), .indexAddrS 1 (.t 81) (.t 82)⟩, .pure), (⟨some 84, some (75, true), .load1 (.t 83)⟩, .read [12]), (⟨some 85, some (75, true), .callF 227 [(.t 80), (.t 84)]⟩, .alone 12), (⟨some 86, some (75, true), .un .not (.t 85)⟩, .pure), (⟨some 87, none, .pick (.t 75) (.t 86) (.c (.bool false))⟩, .pure)])
(.cond (.t 87) (.seq (.region [⟨some 88, none, .mov (.t 0)⟩, ⟨some 89, none, .mov (.t 1)⟩, ⟨some 90, none, .mov (.t 2)⟩, ⟨some 91, none, .mov (.t 11)⟩, ⟨some 92, none, .callF 228 [(.t 88), (.t 89), (.t 90), (.t 91)]⟩, ⟨some 13, none, .mov (.t 92)⟩])
(.seq (.region [⟨some 93, none, .mov (.t 13)⟩, ⟨some 1, none, .mov (.t 93)⟩])
(.exit 1))) .skip))
(.seq (.region [⟨some 95, none, .mov (.t 0)⟩, ⟨some 96, none, .mov (.t 1)⟩, ⟨some 97, none, .mov (.t 2)⟩, ⟨some 98, none, .mov (.t 11)⟩, ⟨some 99, none, .callF 229 [(.t 95), (.t 96), (.t 97), (.t 98)]⟩, ⟨some 94, none, .mov (.t 99)⟩, ⟨some 100, none, .extract (.t 94) 0⟩, ⟨some 101, none, .extract (.t 94) 1⟩, ⟨some 14, none, .mov (.t 100)⟩, ⟨some 15, none, .mov (.t 101)⟩])
(.seq (.region [⟨some 102, none, .mov (.t 15)⟩, ⟨some 9, none, .mov (.t 102)⟩])
(.seq (.region [⟨some 103, none, .mov (.t 14)⟩, ⟨some 104, none, .mov (.t 1)⟩, ⟨some 105, none, .bin .sub (.t 103) (.t 104)⟩, ⟨some 106, none, .mov (.t 2)⟩, ⟨some 107, none, .mov (.t 14)⟩, ⟨some 108, none, .bin .sub (.t 106) (.t 107)⟩, ⟨some 16, none, .mov (.t 105)⟩, ⟨some 17, none, .mov (.t 108)⟩])
(.seq (.region [⟨some 109, none, .mov (.t 10)⟩, ⟨some 110, none, .bin .quo (.t 109) (.c (.int .i64 8))⟩, ⟨some 18, none, .mov (.t 110)⟩])
(.seq (.region [⟨some 111, none, .mov (.t 16)⟩, ⟨some 112, none, .mov (.t 17)⟩, ⟨some 113, none, .bin .lss (.t 111) (.t 112)⟩])
(.cond (.t 113) (.seq (.region [⟨some 114, none, .mov (.t 16)⟩, ⟨some 115, none, .mov (.t 18)⟩, ⟨some 116, none, .bin .geq (.t 114) (.t 115)⟩, ⟨some 8, none, .mov (.t 116)⟩])
(.seq (.region [⟨some 117, none, .mov (.t 0)⟩, ⟨some 118, none, .mov (.t 1)⟩, ⟨some 119, none, .mov (.t 14)⟩, ⟨some 120, none, .mov (.t 3)⟩, ⟨some 121, none, .callF 190 [(.t 117), (.t 118), (.t 119), (.t 120)]⟩])
(.region [⟨some 122, none, .mov (.t 14)⟩, ⟨some 123, none, .bin .add (.t 122) (.c (.int .i64 1))⟩, ⟨some 1, none, .mov (.t 123)⟩]))) (.seq (.region [⟨some 124, none, .mov (.t 17)⟩, ⟨some 125, none, .mov (.t 18)⟩, ⟨some 126, none, .bin .geq (.t 124) (.t 125)⟩, ⟨some 8, none, .mov (.t 126)⟩])
(.seq (.region [⟨some 127, none, .mov (.t 0)⟩, ⟨some 128, none, .mov (.t 14)⟩, ⟨some 129, none, .bin .add (.t 128) (.c (.int .i64 1))⟩, ⟨some 130, none, .mov (.t 2)⟩, ⟨some 131, none, .mov (.t 3)⟩, ⟨some 132, none, .callF 190 [(.t 127), (.t 129), (.t 130), (.t 131)]⟩])
(.region [⟨some 133, none, .mov (.t 14)⟩, ⟨some 2, none, .mov (.t 133)⟩]))))))))))))))))))))))⟩
theorem ok190 : Fok 190 d190 := ⟨_, Tryz.func190, by kernel_rfl⟩
/- math/bits.Len -/
def d191 : DFunc := ⟨1, [.tmp 2], (.seq (.region [⟨some 2, none, .mov (.c (.int .i64 0))⟩])
(.seq (.cond (.c (.bool false)) (.seq (.region [⟨some 3, none, .mov (.t 0)⟩, ⟨some 4, none, .convInt .u32 (.t 3)⟩, ⟨some 5, none, .callF 230 [(.t 4)]⟩, ⟨some 2, none, .mov (.t 5)⟩])
.ret) .skip)
(.seq (.region [⟨some 6, none, .mov (.t 0)⟩, ⟨some 7, none, .callF 213 [(.t 6)]⟩, ⟨some 2, none, .mov (.t 7)⟩])
.ret)))⟩
theorem ok191 : Fok 191 d191 := ⟨_, Tryz.func191, by kernel_rfl⟩
/- internal/stringslite.Index -/
def d196 : DFunc := ⟨2, [.tmp 4], (.seq (.region [⟨some 4, none, .mov (.c (.int .i64 0))⟩])
(.seq (.region [⟨some 14, none, .mov (.t 1)⟩, ⟨some 15, none, .lenStr (.t 14)⟩, ⟨some 5, none, .mov (.t 15)⟩])
(.seq (.block 0 (.seq (.region [⟨some 17, none, .mov (.t 5)⟩, ⟨some 18, none, .bin .eql (.t 17) (.c (.int .i64 0))⟩, ⟨some 19, none, .mov (.t 18)⟩, ⟨some 20, some (19, false), .mov (.t 1)⟩, ⟨some 21, some (19, false), .mov (.t 0)⟩, ⟨some 22, some (19, false), .bin .eql (.t 20) (.t 21)⟩, ⟨some 23, none, .pick (.t 19) (.c (.bool true)) (.t 22)⟩, ⟨some 16, none, .mov (.t 23)⟩])
(.cond (.t 16) (.seq (.region [⟨some 4, none, .mov (.c (.int .i64 0))⟩])
.ret) (.seq (.region [⟨some 25, none, .mov (.t 5)⟩, ⟨some 26, none, .bin .eql (.t 25) (.c (.int .i64 1))⟩, ⟨some 24, none, .mov (.t 26)⟩])
(.cond (.t 24) (.seq (.region [⟨some 27, none, .mov (.t 0)⟩, ⟨some 28, none, .mov (.t 1)⟩, ⟨some 29, none, .indexStr (.t 28) (.c (.int .i64 0))⟩, ⟨some 30, none, .callF 176 [(.t 27), (.t 29)]⟩, ⟨some 4, none, .mov (.t 30)⟩])
.ret) (.seq (.region [⟨some 32, none, .mov (.t 5)⟩, ⟨some 33, none, .mov (.t 0)⟩, ⟨some 34, none, .lenStr (.t 33)⟩, ⟨some 35, none, .bin .geq (.t 32) (.t 34)⟩, ⟨some 31, none, .mov (.t 35)⟩])
(.cond (.t 31) (.seq (.region [⟨some 4, none, .mov (.c (.int .i64 (-1)))⟩])
.ret) (.seq (.region [⟨some 37, none, .mov (.t 5)⟩, ⟨some 38, none, .load1 (.c (.ptr 12 0))⟩, ⟨some 39, none, .bin .leq (.t 37) (.t 38)⟩, ⟨some 40, none, .mov (.t 39)⟩, ⟨some 41, some (40, true), .mov (.t 0)⟩, ⟨some 42, some (40, true), .lenStr (.t 41)⟩, ⟨some 43, some (40, true), .bin .leq (.t 42) (.c (.int .i64 64))⟩, ⟨some 44, none, .pick (.t 40) (.t 43) (.c (.bool false))⟩, ⟨some 36, none, .mov (.t 44)⟩])
(.cond (.t 36) (.seq (.region [⟨some 45, none, .mov (.t 0)⟩, ⟨some 46, none, .mov (.t 1)⟩, ⟨some 47, none, .callF 233 [(.t 45), (.t 46)]⟩, ⟨some 4, none, .mov (.t 47)⟩])
.ret) .skip)))))))))
(.seq (.region [⟨some 48, none, .mov (.t 1)⟩, ⟨some 49, none, .indexStr (.t 48) (.c (.int .i64 0))⟩, ⟨some 6, none, .mov (.t 49)⟩])
(.seq (.region [⟨some 50, none, .mov (.t 1)⟩, ⟨some 51, none, .indexStr (.t 50) (.c (.int .i64 1))⟩, ⟨some 7, none, .mov (.t 51)⟩])
(.seq (.region [⟨some 8, none, .mov (.c (.int .i64 0))⟩])
(.seq (.region [⟨some 52, none, .mov (.t 0)⟩, ⟨some 53, none, .lenStr (.t 52)⟩, ⟨some 54, none, .mov (.t 5)⟩, ⟨some 55, none, .bin .sub (.t 53) (.t 54)⟩, ⟨some 56, none, .bin .add (.t 55) (.c (.int .i64 1))⟩, ⟨some 9, none, .mov (.t 56)⟩])
(.seq (.region [⟨some 10, none, .mov (.c (.int .i64 0))⟩])
(.seq (.block 1 (.loop (.seq (.seq (.region [⟨some 57, none, .mov (.t 8)⟩, ⟨some 58, none, .mov (.t 9)⟩, ⟨some 59, none, .bin .lss (.t 57) (.t 58)⟩])
(.cond (.t 59) .skip (.exit 1)))
(.block 2 (.seq (.seq (.region [⟨some 60, none, .mov (.t 0)⟩, ⟨some 61, none, .mov (.t 8)⟩, ⟨some 62, none, .indexStr (.t 60) (.t 61)⟩, ⟨some 63, none, .mov (.t 6)⟩, ⟨some 64, none, .bin .neq (.t 62) (.t 63)⟩])
(.cond (.t 64) (.seq (.region [⟨some 65, none, .mov (.t 0)⟩, ⟨some 66, none, .mov (.t 8)⟩, ⟨some 67, none, .bin .add (.t 66) (.c (.int .i64 1))⟩, ⟨some 68, none, .mov (.t 9)⟩, ⟨some 69, none, .sliceStr (.t 65) (some (.t 67)) (some (.t 68))⟩, ⟨some 70, none, .mov (.t 6)⟩, ⟨some 71, none, .callF 176 [(.t 69), (.t 70)]⟩, ⟨some 11, none, .mov (.t 71)⟩])
(.seq (.seq (.region [⟨some 72, none, .mov (.t 11)⟩, ⟨some 73, none, .bin .lss (.t 72) (.c (.int .i64 0))⟩])
(.cond (.t 73) (.seq (.region [⟨some 4, none, .mov (.c (.int .i64 (-1)))⟩])
.ret) .skip))
(.region [⟨some 74, none, .mov (.t 8)⟩, ⟨some 75, none, .mov (.t 11)⟩, ⟨some 76, none, .bin .add (.t 75) (.c (.int .i64 1))⟩, ⟨some 77, none, .bin .add (.t 74) (.t 76)⟩, ⟨some 8, none, .mov (.t 77)⟩]))) .skip))
(.seq (.seq (.region [⟨some 78, none, .mov (.t 0)⟩, ⟨some 79, none, .mov (.t 8)⟩, ⟨some 80, none, .bin .add (.t 79) (.c (.int .i64 1))⟩, ⟨some 81, none, .indexStr (.t 78) (.t 80)⟩, ⟨some 82, none, .mov (.t 7)⟩, ⟨some 83, none, .bin .eql (.t 81) (.t 82)⟩, ⟨some 84, none, .mov (.t 83)⟩, ⟨some 85, some (84, true), .mov (.t 0)⟩, ⟨some 86, some (84, true), .mov (.t 8)⟩, ⟨some 87, some (84, true), .mov (.t 8)⟩, ⟨some 88, some (84, true), .mov (.t 5)⟩, ⟨some 89, some (84, true), .bin .add (.t 87) (.t 88)⟩, ⟨some 90, some (84, true), .sliceStr (.t 85) (some (.t 86)) (some (.t 89))⟩, ⟨some 91, some (84, true), .mov (.t 1)⟩, ⟨some 92, some (84, true), .bin .eql (.t 90) (.t 91)⟩, ⟨some 93, none, .pick (.t 84) (.t 92) (.c (.bool false))⟩])
(.cond (.t 93) (.seq (.region [⟨some 94, none, .mov (.t 8)⟩, ⟨some 4, none, .mov (.t 94)⟩])
.ret) .skip))
(.seq (.region [⟨some 95, none, .mov (.t 8)⟩, ⟨some 96, none, .bin .add (.t 95) (.c (.int .i64 1))⟩, ⟨some 8, none, .mov (.t 96)⟩])
(.seq (.region [⟨some 97, none, .mov (.t 10)⟩, ⟨some 98, none, .bin .add (.t 97) (.c (.int .i64 1))⟩, ⟨some 10, none, .mov (.t 98)⟩])
(.seq (.region [⟨some 99, none, .mov (.t 5)⟩, ⟨some 100, none, .load1 (.c (.ptr 12 0))⟩, ⟨some 101, none, .bin .leq (.t 99) (.t 100)⟩, ⟨some 102, none, .mov (.t 101)⟩, ⟨some 103, some (102, true), .mov (.t 10)⟩, ⟨some 104, some (102, true), .mov (.t 8)⟩, ⟨some 105, some (102, true), .callF 194 [(.t 104)]⟩, ⟨some 106, some (102, true), .bin .gtr (.t 103) (.t 105)⟩, ⟨some 107, none, .pick (.t 102) (.t 106) (.c (.bool false))⟩])
(.cond (.t 107) (.seq (.region [⟨some 108, none, .mov (.t 0)⟩, ⟨some 109, none, .mov (.t 8)⟩, ⟨some 110, none, .sliceStr (.t 108) (some (.t 109)) none⟩, ⟨some 111, none, .mov (.t 1)⟩, ⟨some 112, none, .callF 233 [(.t 110), (.t 111)]⟩, ⟨some 12, none, .mov (.t 112)⟩])
(.seq (.seq (.region [⟨some 113, none, .mov (.t 12)⟩, ⟨some 114, none, .bin .geq (.t 113) (.c (.int .i64 0))⟩])
(.cond (.t 114) (.seq (.region [⟨some 115, none, .mov (.t 12)⟩, ⟨some 116, none, .mov (.t 8)⟩, ⟨some 117, none, .bin .add (.t 115) (.t 116)⟩, ⟨some 4, none, .mov (.t 117)⟩])
.ret) .skip))
(.seq (.region [⟨some 4, none, .mov (.c (.int .i64 (-1)))⟩])
.ret))) (.seq (.region [⟨some 118, none, .mov (.t 5)⟩, ⟨some 119, none, .load1 (.c (.ptr 12 0))⟩, ⟨some 120, none, .bin .gtr (.t 118) (.t 119)⟩, ⟨some 121, none, .mov (.t 120)⟩, ⟨some 122, some (121, true), .mov (.t 10)⟩, ⟨some 123, some (121, true), .mov (.t 8)⟩, ⟨some 124, some (121, true), .bin .shr (.t 123) (.c (.int .u64 4))⟩, ⟨some 125, some (121, true), .bin .add (.c (.int .i64 4)) (.t 124)⟩, ⟨some 126, some (121, true), .bin .geq (.t 122) (.t 125)⟩, ⟨some 127, none, .pick (.t 121) (.t 126) (.c (.bool false))⟩, ⟨some 128, none, .mov (.t 127)⟩, ⟨some 129, some (128, true), .mov (.t 8)⟩, ⟨some 130, some (128, true), .mov (.t 9)⟩, ⟨some 131, some (128, true), .bin .lss (.t 129) (.t 130)⟩, ⟨some 132, none, .pick (.t 128) (.t 131) (.c (.bool false))⟩])
(.cond (.t 132) (.seq (.region [⟨some 133, none, .mov (.t 0)⟩, ⟨some 134, none, .mov (.t 8)⟩, ⟨some 135, none, .sliceStr (.t 133) (some (.t 134)) none⟩, ⟨some 136, none, .mov (.t 1)⟩, ⟨some 137, none, .callF 234 [(.t 135), (.t 136)]⟩, ⟨some 13, none, .mov (.t 137)⟩])
(.seq (.seq (.region [⟨some 138, none, .mov (.t 13)⟩, ⟨some 139, none, .bin .lss (.t 138) (.c (.int .i64 0))⟩])
(.cond (.t 139) (.seq (.region [⟨some 4, none, .mov (.c (.int .i64 (-1)))⟩])
.ret) .skip))
(.seq (.region [⟨some 140, none, .mov (.t 8)⟩, ⟨some 141, none, .mov (.t 13)⟩, ⟨some 142, none, .bin .add (.t 140) (.t 141)⟩, ⟨some 4, none, .mov (.t 142)⟩])
.ret))) .skip))))))))))))
(.seq (.region [⟨some 4, none, .mov (.c (.int .i64 (-1)))⟩])
.ret))))))))))⟩
theorem ok196 : Fok 196 d196 := ⟨_, Tryz.func196, by kernel_rfl⟩
/- strings.genSplit -/
def d197 : DFunc := ⟨4, [.tmp 8], (.seq (.region [⟨some 8, none, .mov (.c .nilSlice)⟩])
(.seq (.seq (.region [⟨some 12, none, .mov (.t 3)⟩, ⟨some 13, none, .bin .eql (.t 12) (.c (.int .i64 0))⟩])
(.cond (.t 13) (.seq (.region [⟨some 8, none, .mov (.c .nilSlice)⟩])
.ret) .skip))
(.seq (.seq (.region [⟨some 14, none, .mov (.t 1)⟩, ⟨some 15, none, .bin .eql (.t 14) (.c (.str []))⟩])
(.cond (.t 15) (.seq (.region [⟨some 16, none, .mov (.t 0)⟩, ⟨some 17, none, .mov (.t 3)⟩, ⟨some 18, none, .callF 235 [(.t 16), (.t 17)]⟩, ⟨some 8, none, .mov (.t 18)⟩])
.ret) .skip))
(.seq (.seq (.region [⟨some 19, none, .mov (.t 3)⟩, ⟨some 20, none, .bin .lss (.t 19) (.c (.int .i64 0))⟩])
(.cond (.t 20) (.region [⟨some 21, none, .mov (.t 0)⟩, ⟨some 22, none, .mov (.t 1)⟩, ⟨some 23, none, .callF 236 [(.t 21), (.t 22)]⟩, ⟨some 24, none, .bin .add (.t 23) (.c (.int .i64 1))⟩, ⟨some 3, none, .mov (.t 24)⟩]) .skip))
(.seq (.region [⟨some 25, none, .mov (.t 3)⟩, ⟨some 26, none, .mov (.t 0)⟩, ⟨some 27, none, .lenStr (.t 26)⟩, ⟨some 28, none, .bin .add (.t 27) (.c (.int .i64 1))⟩, ⟨some 29, none, .minmax false [(.t 25), (.t 28)]⟩, ⟨some 3, none, .mov (.t 29)⟩])
(.seq (.region [⟨some 30, none, .mov (.t 3)⟩, ⟨some 31, none, .mkSlice [(.str [])] 1 16 (.t 30) (.t 30)⟩, ⟨some 9, none, .mov (.t 31)⟩])
(.seq (.region [⟨some 32, none, .mov (.t 3)⟩, ⟨some 33, none, .bin .sub (.t 32) (.c (.int .i64 1))⟩, ⟨some 3, none, .mov (.t 33)⟩])
(.seq (.region [⟨some 10, none, .mov (.c (.int .i64 0))⟩])
(.seq (.block 0 (.loop (.seq (.seq (.region [⟨some 34, none, .mov (.t 10)⟩, ⟨some 35, none, .mov (.t 3)⟩, ⟨some 36, none, .bin .lss (.t 34) (.t 35)⟩])
(.cond (.t 36) .skip (.exit 0)))
(.block 1 (.seq (.region [⟨some 37, none, .mov (.t 0)⟩, ⟨some 38, none, .mov (.t 1)⟩, ⟨some 39, none, .callF 237 [(.t 37), (.t 38)]⟩, ⟨some 11, none, .mov (.t 39)⟩])
(.seq (.seq (.region [⟨some 40, none, .mov (.t 11)⟩, ⟨some 41, none, .bin .lss (.t 40) (.c (.int .i64 0))⟩])
(.cond (.t 41) (.exit 0) .skip))
(.seq (.region [⟨some 42, none, .mov (.t 9)⟩, ⟨some 43, none, .mov (.t 10)⟩, ⟨some 44, none, .mov (.t 0)⟩, ⟨some 45, none, .mov (.t 11)⟩, ⟨some 46, none, .mov (.t 2)⟩, ⟨some 47, none, .bin .add (.t 45) (.t 46)⟩, ⟨some 48, none, .sliceStr (.t 44) none (some (.t 47))⟩, ⟨some 49, none, .indexAddrS 1 (.t 42) (.t 43)⟩, ⟨none, none, .store 1 (.t 49) (.t 48)⟩])
(.seq (.region [⟨some 50, none, .mov (.t 0)⟩, ⟨some 51, none, .mov (.t 11)⟩, ⟨some 52, none, .mov (.t 1)⟩, ⟨some 53, none, .lenStr (.t 52)⟩, ⟨some 54, none, .bin .add (.t 51) (.t 53)⟩, ⟨some 55, none, .sliceStr (.t 50) (some (.t 54)) none⟩, ⟨some 0, none, .mov (.t 55)⟩])
(.region [⟨some 56, none, .mov (.t 10)⟩, ⟨some 57, none, .bin .add (.t 56) (.c (.int .i64 1))⟩, ⟨some 10, none, .mov (.t 57)⟩])))))))))
(.seq (.region [⟨some 58, none, .mov (.t 9)⟩, ⟨some 59, none, .mov (.t 10)⟩, ⟨some 60, none, .mov (.t 0)⟩, ⟨some 61, none, .indexAddrS 1 (.t 58) (.t 59)⟩, ⟨none, none, .store 1 (.t 61) (.t 60)⟩])
(.seq (.region [⟨some 62, none, .mov (.t 9)⟩, ⟨some 63, none, .mov (.t 10)⟩, ⟨some 64, none, .bin .add (.t 63) (.c (.int .i64 1))⟩, ⟨some 65, none, .sliceSl 1 (.t 62) none (some (.t 64)) none⟩, ⟨some 8, none, .mov (.t 65)⟩])
.ret)))))))))))⟩
theorem ok197 : Fok 197 d197 := ⟨_, Tryz.func197, by kernel_rfl⟩
/- stint/yard.fits -/
def d201 : DFunc := ⟨1, [.tmp 2], (.seq (.region [⟨some 1, none, .box (.t 0)⟩, ⟨some 2, none, .mov (.c (.bool false))⟩])
(.seq (.region [⟨some 6, none, .fieldAddr 8 (.t 1)⟩, ⟨some 7, none, .load1 (.t 6)⟩, ⟨some 8, none, .bin .eql (.t 7) (.c (.int .i64 (-1)))⟩, ⟨some 3, none, .mov (.t 8)⟩])
(.seq (.seq (.region [⟨some 9, none, .fieldAddr 5 (.t 1)⟩, ⟨some 10, none, .load1 (.t 9)⟩, ⟨some 11, none, .bin .eql (.t 10) (.c (.int .i64 3))⟩])
(.cond (.t 11) (.region [⟨some 12, none, .fieldAddr 8 (.t 1)⟩, ⟨some 13, none, .load1 (.t 12)⟩, ⟨some 14, none, .bin .geq (.t 13) (.c (.int .i64 0))⟩, ⟨some 15, none, .mov (.t 14)⟩, ⟨some 16, some (15, true), .fieldAddr 8 (.t 1)⟩, ⟨some 17, some (15, true), .load1 (.t 16)⟩, ⟨some 18, some (15, true), .bin .lss (.t 17) (.c (.int .i64 64))⟩, ⟨some 19, none, .pick (.t 15) (.t 18) (.c (.bool false))⟩, ⟨some 3, none, .mov (.t 19)⟩]) .skip))
(.seq (.region [⟨some 20, none, .fieldAddr 6 (.t 1)⟩, ⟨some 21, none, .load1 (.t 20)⟩, ⟨some 22, none, .bin .eql (.t 21) (.c (.int .i64 0))⟩, ⟨some 4, none, .mov (.t 22)⟩])
(.seq (.seq (.region [⟨some 23, none, .fieldAddr 5 (.t 1)⟩, ⟨some 24, none, .load1 (.t 23)⟩, ⟨some 25, none, .bin .eql (.t 24) (.c (.int .i64 2))⟩, ⟨some 26, none, .mov (.t 25)⟩, ⟨some 27, some (26, false), .fieldAddr 5 (.t 1)⟩, ⟨some 28, some (26, false), .load1 (.t 27)⟩, ⟨some 29, some (26, false), .bin .eql (.t 28) (.c (.int .i64 3))⟩, ⟨some 30, none, .pick (.t 26) (.c (.bool true)) (.t 29)⟩])
(.cond (.t 30) (.region [⟨some 31, none, .fieldAddr 6 (.t 1)⟩, ⟨some 32, none, .load1 (.t 31)⟩, ⟨some 33, none, .bin .geq (.t 32) (.c (.int .i64 1))⟩, ⟨some 4, none, .mov (.t 33)⟩]) .skip))
(.seq (.region [⟨some 34, none, .fieldAddr 7 (.t 1)⟩, ⟨some 35, none, .load1 (.t 34)⟩, ⟨some 36, none, .bin .eql (.t 35) (.c (.int .i64 0))⟩, ⟨some 5, none, .mov (.t 36)⟩])
(.seq (.seq (.region [⟨some 37, none, .fieldAddr 5 (.t 1)⟩, ⟨some 38, none, .load1 (.t 37)⟩, ⟨some 39, none, .bin .eql (.t 38) (.c (.int .i64 4))⟩])
(.cond (.t 39) (.region [⟨some 40, none, .fieldAddr 7 (.t 1)⟩, ⟨some 41, none, .load1 (.t 40)⟩, ⟨some 42, none, .bin .geq (.t 41) (.c (.int .i64 1))⟩, ⟨some 5, none, .mov (.t 42)⟩]) .skip))
(.seq (.region [⟨some 43, none, .mov (.t 3)⟩, ⟨some 44, none, .mov (.t 43)⟩, ⟨some 45, some (44, true), .mov (.t 4)⟩, ⟨some 46, none, .pick (.t 44) (.t 45) (.c (.bool false))⟩, ⟨some 47, none, .mov (.t 46)⟩, ⟨some 48, some (47, true), .mov (.t 5)⟩, ⟨some 49, none, .pick (.t 47) (.t 48) (.c (.bool false))⟩, ⟨some 50, none, .mov (.t 49)⟩, ⟨some 51, some (50, true), .fieldAddr 14 (.t 1)⟩, ⟨some 52, some (50, true), .load1 (.t 51)⟩, ⟨some 53, some (50, true), .lenStr (.t 52)⟩, ⟨some 54, some (50, true), .bin .geq (.t 53) (.c (.int .i64 1))⟩, ⟨some 55, none, .pick (.t 50) (.t 54) (.c (.bool false))⟩, ⟨some 56, none, .mov (.t 55)⟩, ⟨some 57, some (56, true), .fieldAddr 14 (.t 1)⟩, ⟨some 58, some (56, true), .load1 (.t 57)⟩, ⟨some 59, some (56, true), .lenStr (.t 58)⟩, ⟨some 60, some (56, true), .bin .leq (.t 59) (.c (.int .i64 200))⟩, ⟨some 61, none, .pick (.t 56) (.t 60) (.c (.bool false))⟩, ⟨some 62, none, .mov (.t 61)⟩, ⟨some 63, some (62, true), .fieldAddr 15 (.t 1)⟩, ⟨some 64, some (62, true), .load1 (.t 63)⟩, ⟨some 65, some (62, true), .lenSl (.t 64)⟩, ⟨some 66, some (62, true), .bin .leq (.t 65) (.c (.int .i64 65535))⟩, ⟨some 67, none, .pick (.t 62) (.t 66) (.c (.bool false))⟩, ⟨some 2, none, .mov (.t 67)⟩])
.ret))))))))⟩
theorem ok201 : Fok 201 d201 := ⟨_, Tryz.func201, by kernel_rfl⟩
/- stint/yard.count -/
def d203 : DFunc := ⟨3, [], (.seq (.region [⟨some 4, none, .box (.t 1)⟩])
(.seq (.region [⟨some 6, none, .fieldAddr 5 (.t 4)⟩, ⟨some 7, none, .load1 (.t 6)⟩])
(.block 0 (.seq (.region [⟨some 9, none, .bin .eql (.t 7) (.c (.int .i64 1))⟩, ⟨some 8, none, .mov (.t 9)⟩])
(.cond (.t 8) (.seq (.region [⟨some 10, none, .mov (.t 0)⟩, ⟨some 11, none, .nilCheck (.t 10)⟩, ⟨some 12, none, .fieldAddr 0 (.t 11)⟩, ⟨some 13, none, .load1 (.t 12)⟩, ⟨some 14, none, .mov (.t 2)⟩, ⟨some 15, none, .bin .add (.t 13) (.t 14)⟩, ⟨some 16, none, .nilCheck (.t 10)⟩, ⟨some 17, none, .fieldAddr 0 (.t 16)⟩, ⟨none, none, .store 1 (.t 17) (.t 15)⟩])
(.seq (.region [⟨some 18, none, .fieldAddr 1 (.t 4)⟩, ⟨some 19, none, .load1 (.t 18)⟩, ⟨some 20, none, .bin .lss (.t 19) (.c (.int .i64 1024))⟩])
(.cond (.t 20) (.region [⟨some 21, none, .mov (.t 0)⟩, ⟨some 22, none, .nilCheck (.t 21)⟩, ⟨some 23, none, .fieldAddr 4 (.t 22)⟩, ⟨some 24, none, .load1 (.t 23)⟩, ⟨some 25, none, .mov (.t 2)⟩, ⟨some 26, none, .bin .add (.t 24) (.t 25)⟩, ⟨some 27, none, .nilCheck (.t 21)⟩, ⟨some 28, none, .fieldAddr 4 (.t 27)⟩, ⟨none, none, .store 1 (.t 28) (.t 26)⟩]) .skip))) (.seq (.region [⟨some 30, none, .bin .eql (.t 7) (.c (.int .i64 2))⟩, ⟨some 29, none, .mov (.t 30)⟩])
(.cond (.t 29) (.region [⟨some 31, none, .mov (.t 0)⟩, ⟨some 32, none, .nilCheck (.t 31)⟩, ⟨some 33, none, .fieldAddr 1 (.t 32)⟩, ⟨some 34, none, .load1 (.t 33)⟩, ⟨some 35, none, .mov (.t 2)⟩, ⟨some 36, none, .bin .add (.t 34) (.t 35)⟩, ⟨some 37, none, .nilCheck (.t 31)⟩, ⟨some 38, none, .fieldAddr 1 (.t 37)⟩, ⟨none, none, .store 1 (.t 38) (.t 36)⟩]) (.seq (.region [⟨some 40, none, .bin .eql (.t 7) (.c (.int .i64 3))⟩, ⟨some 39, none, .mov (.t 40)⟩])
(.cond (.t 39) (.region [⟨some 41, none, .mov (.t 0)⟩, ⟨some 42, none, .nilCheck (.t 41)⟩, ⟨some 43, none, .fieldAddr 2 (.t 42)⟩, ⟨some 44, none, .load1 (.t 43)⟩, ⟨some 45, none, .mov (.t 2)⟩, ⟨some 46, none, .bin .add (.t 44) (.t 45)⟩, ⟨some 47, none, .nilCheck (.t 41)⟩, ⟨some 48, none, .fieldAddr 2 (.t 47)⟩, ⟨none, none, .store 1 (.t 48) (.t 46)⟩]) (.seq (.region [⟨some 50, none, .bin .eql (.t 7) (.c (.int .i64 4))⟩, ⟨some 49, none, .mov (.t 50)⟩])
(.cond (.t 49) (.region [⟨some 51, none, .mov (.t 0)⟩, ⟨some 52, none, .nilCheck (.t 51)⟩, ⟨some 53, none, .fieldAddr 3 (.t 52)⟩, ⟨some 54, none, .load1 (.t 53)⟩, ⟨some 55, none, .mov (.t 2)⟩, ⟨some 56, none, .bin .add (.t 54) (.t 55)⟩, ⟨some 57, none, .nilCheck (.t 51)⟩, ⟨some 58, none, .fieldAddr 3 (.t 57)⟩, ⟨none, none, .store 1 (.t 58) (.t 56)⟩]) .skip)))))))))))⟩
theorem ok203 : Fok 203 d203 := ⟨_, Tryz.func203, by kernel_rfl⟩
/- (*stint/heap.Heap[stint/yard.spot]).Push -/
def d204 : DFunc := ⟨2, [.tmp 4], (.seq (.region [⟨some 3, none, .box (.t 1)⟩, ⟨some 4, none, .mov (.c (.int .i64 0))⟩])
(.seq (.region [⟨some 5, none, .mov (.t 0)⟩, ⟨some 6, none, .nilCheck (.t 5)⟩, ⟨some 7, none, .fieldAddr 3 (.t 6)⟩, ⟨some 8, none, .load1 (.t 7)⟩, ⟨some 9, none, .bin .add (.t 8) (.c (.int .i64 1))⟩, ⟨some 10, none, .nilCheck (.t 5)⟩, ⟨some 11, none, .fieldAddr 3 (.t 10)⟩, ⟨none, none, .store 1 (.t 11) (.t 9)⟩])
(.seq (.draw [(⟨some 12, none, .mov (.t 0)⟩, .pure), (⟨some 13, none, .nilCheck (.t 12)⟩, .pure), (⟨some 14, none, .fieldAddr 2 (.t 13)⟩, .pure), (⟨some 15, none, .load1 (.t 14)⟩, .read [13]), (⟨some 16, none, .mov (.t 0)⟩, .pure), (⟨some 17, none, .nilCheck (.t 16)⟩, .pure), (⟨some 18, none, .fieldAddr 3 (.t 17)⟩, .pure), (⟨some 19, none, .load1 (.t 18)⟩, .read [13]), (⟨some 20, none, .mov (.t 0)⟩, .pure), (⟨some 21, none, .nilCheck (.t 20)⟩, .pure), (⟨some 22, none, .fieldAddr 1 (.t 21)⟩, .pure), (⟨some 23, none, .load1 (.t 22)⟩, .read [13]), (⟨some 24, none, .lenSl (.t 23)⟩, .pure), (⟨none, none, .mapUpdate false (.t 15) (.t 19) (.t 24)⟩, .alone 13)])
(.seq (.draw [(⟨some 25, none, .mov (.t 0)⟩, .pure), (⟨some 26, none, .mov (.t 0)⟩, .pure), (⟨some 27, none, .nilCheck (.t 26)⟩, .pure), (⟨some 28, none, .fieldAddr 1 (.t 27)⟩, .pure), (⟨some 29, none, .load1 (.t 28)⟩, .read [15, 12]), (⟨some 30, none, .mov (.t 0)⟩, .pure), (⟨some 31, none, .nilCheck (.t 30)⟩, .pure), (⟨some 32, none, .fieldAddr 3 (.t 31)⟩, .pure), (⟨some 33, none, .load1 (.t 32)⟩, .read [15, 12, 11, 10]), (⟨some 34, none, .loadN 2 (.t 3)⟩, .read [15, 12, 11, 10]), (⟨some 35, none, .build [(.int .i64 0), (.int .i64 0), (.int .i64 0)] [(0, 1, (.t 33)), (1, 2, (.t 34))]⟩, .alone 10), (⟨some 36, none, .buildSlice 1 [(.int .i64 0), (.int .i64 0), (.int .i64 0)] [(0, 3, (.t 35))]⟩, .alone 11), (⟨some 37, none, .append 3 24 [] (.t 29) (.t 36)⟩, .alone 12), (⟨some 38, none, .nilCheck (.t 25)⟩, .pure), (⟨some 39, none, .fieldAddr 1 (.t 38)⟩, .pure), (⟨none, none, .store 1 (.t 39) (.t 37)⟩, .alone 15)])
(.seq (.region [⟨some 40, none, .mov (.t 0)⟩, ⟨some 41, none, .mov (.t 0)⟩, ⟨some 42, none, .nilCheck (.t 41)⟩, ⟨some 43, none, .fieldAddr 1 (.t 42)⟩, ⟨some 44, none, .load1 (.t 43)⟩, ⟨some 45, none, .lenSl (.t 44)⟩, ⟨some 46, none, .bin .sub (.t 45) (.c (.int .i64 1))⟩, ⟨some 47, none, .callF 242 [(.t 40), (.t 46)]⟩])
(.seq (.region [⟨some 48, none, .mov (.t 0)⟩, ⟨some 49, none, .nilCheck (.t 48)⟩, ⟨some 50, none, .fieldAddr 3 (.t 49)⟩, ⟨some 51, none, .load1 (.t 50)⟩, ⟨some 4, none, .mov (.t 51)⟩])
.ret))))))⟩
theorem ok204 : Fok 204 d204 := ⟨_, Tryz.func204, by kernel_rfl⟩
/- (*stint/engine.Engine).say -/
def d207 : DFunc := ⟨3, [], (.seq (.region [⟨some 5, none, .box (.t 2)⟩])
(.draw [(⟨some 6, none, .mov (.t 0)⟩, .pure), (⟨some 7, none, .mov (.t 0)⟩, .pure), (⟨some 8, none, .nilCheck (.t 7)⟩, .pure), (⟨some 9, none, .fieldAddr 40 (.t 8)⟩, .pure), (⟨some 10, none, .load1 (.t 9)⟩, .read [12, 9]), (⟨some 11, none, .mov (.t 1)⟩, .pure), (⟨some 12, none, .loadN 5 (.t 5)⟩, .read [12, 9, 8, 7]), (⟨some 13, none, .build [(.int .i64 0), (.int .i64 0), (.int .i64 0), .nilSlice, (.int .i64 0), (.int .i64 0), (.int .i64 0), (.int .i64 0), (.int .i64 0), (.str []), .nilSlice, .nilSlice] [(0, 1, (.c (.int .i64 2))), (5, 1, (.t 11)), (6, 5, (.t 12))]⟩, .alone 7), (⟨some 14, none, .buildSlice 1 [(.int .i64 0), (.int .i64 0), (.int .i64 0), .nilSlice, (.int .i64 0), (.int .i64 0), (.int .i64 0), (.int .i64 0), (.int .i64 0), (.str []), .nilSlice, .nilSlice] [(0, 12, (.t 13))]⟩, .alone 8), (⟨some 15, none, .append 12 152 [] (.t 10) (.t 14)⟩, .alone 9), (⟨some 16, none, .nilCheck (.t 6)⟩, .pure), (⟨some 17, none, .fieldAddr 40 (.t 16)⟩, .pure), (⟨none, none, .store 1 (.t 17) (.t 15)⟩, .alone 12)]))⟩
theorem ok207 : Fok 207 d207 := ⟨_, Tryz.func207, by kernel_rfl⟩
/- math/bits.Len64 -/
def d213 : DFunc := ⟨1, [.tmp 2], (.seq (.region [⟨some 2, none, .mov (.c (.int .i64 0))⟩])
(.seq (.seq (.region [⟨some 3, none, .mov (.t 0)⟩, ⟨some 4, none, .bin .geq (.t 3) (.c (.int .u64 4294967296))⟩])
(.cond (.t 4) (.seq (.region [⟨some 5, none, .mov (.t 0)⟩, ⟨some 6, none, .bin .shr (.t 5) (.c (.int .u64 32))⟩, ⟨some 0, none, .mov (.t 6)⟩])
(.region [⟨some 2, none, .mov (.c (.int .i64 32))⟩])) .skip))
(.seq (.seq (.region [⟨some 7, none, .mov (.t 0)⟩, ⟨some 8, none, .bin .geq (.t 7) (.c (.int .u64 65536))⟩])
(.cond (.t 8) (.seq (.region [⟨some 9, none, .mov (.t 0)⟩, ⟨some 10, none, .bin .shr (.t 9) (.c (.int .u64 16))⟩, ⟨some 0, none, .mov (.t 10)⟩])
(.region [⟨some 11, none, .mov (.t 2)⟩, ⟨some 12, none, .bin .add (.t 11) (.c (.int .i64 16))⟩, ⟨some 2, none, .mov (.t 12)⟩])) .skip))
(.seq (.seq (.region [⟨some 13, none, .mov (.t 0)⟩, ⟨some 14, none, .bin .geq (.t 13) (.c (.int .u64 256))⟩])
(.cond (.t 14) (.seq (.region [⟨some 15, none, .mov (.t 0)⟩, ⟨some 16, none, .bin .shr (.t 15) (.c (.int .u64 8))⟩, ⟨some 0, none, .mov (.t 16)⟩])
(.region [⟨some 17, none, .mov (.t 2)⟩, ⟨some 18, none, .bin .add (.t 17) (.c (.int .i64 8))⟩, ⟨some 2, none, .mov (.t 18)⟩])) .skip))
(.seq (.region [⟨some 19, none, .mov (.t 2)⟩, ⟨some 20, none, .mov (.t 0)⟩, ⟨some 21, none, .convInt .u8 (.t 20)⟩, ⟨some 22, none, .indexStr (.c (.str [0, 1, 2, 2, 3, 3, 3, 3, 4, 4, 4, 4, 4, 4, 4, 4, 5, 5, 5, 5, 5, 5, 5, 5, 5, 5, 5, 5, 5, 5, 5, 5, 6, 6, 6, 6, 6, 6, 6, 6, 6, 6, 6, 6, 6, 6, 6, 6, 6, 6, 6, 6, 6, 6, 6, 6, 6, 6, 6, 6, 6, 6, 6, 6, 7, 7, 7, 7, 7, 7, 7, 7, 7, 7, 7, 7, 7, 7, 7, 7, 7, 7, 7, 7, 7, 7, 7, 7, 7, 7, 7, 7, 7, 7, 7, 7, 7, 7, 7, 7, 7, 7, 7, 7, 7, 7, 7, 7, 7, 7, 7, 7, 7, 7, 7, 7, 7, 7, 7, 7, 7, 7, 7, 7, 7, 7, 7, 7, 8, 8, 8, 8, 8, 8, 8, 8, 8, 8, 8, 8, 8, 8, 8, 8, 8, 8, 8, 8, 8, 8, 8, 8, 8, 8, 8, 8, 8, 8, 8, 8, 8, 8, 8, 8, 8, 8, 8, 8, 8, 8, 8, 8, 8, 8, 8, 8, 8, 8, 8, 8, 8, 8, 8, 8, 8, 8, 8, 8, 8, 8, 8, 8, 8, 8, 8, 8, 8, 8, 8, 8, 8, 8, 8, 8, 8, 8, 8, 8, 8, 8, 8, 8, 8, 8, 8, 8, 8, 8, 8, 8, 8, 8, 8, 8, 8, 8, 8, 8, 8, 8, 8, 8, 8, 8, 8, 8, 8, 8, 8, 8, 8, 8, 8, 8, 8, 8, 8, 8, 8, 8, 8, 8, 8, 8, 8, 8])) (.t 21)⟩, ⟨some 23, none, .convInt .i64 (.t 22)⟩, ⟨some 24, none, .bin .add (.t 19) (.t 23)⟩, ⟨some 2, none, .mov (.t 24)⟩])
.ret)))))⟩
theorem ok213 : Fok 213 d213 := ⟨_, Tryz.func213, by kernel_rfl⟩
/- (stint/record.numbers).only -/
def d217 : DFunc := ⟨2, [.cell 4 16 true], (.seq (.region [⟨some 2, none, .box (.t 0)⟩, ⟨some 4, none, .alloc [(.int .i64 0), (.int .i64 0), (.int .i64 0), (.int .i64 0), (.int .i64 0), (.int .i64 0), (.int .i64 0), (.int .i64 0), (.int .i64 0), (.int .i64 0), (.int .i64 0), (.int .i64 0), (.int .i64 0), (.int .i64 0), (.int .i64 0), (.int .i64 0)]⟩])
(.seq (.region [⟨some 5, none, .alloc [(.int .i64 0), (.int .i64 0), (.int .i64 0), (.int .i64 0), (.int .i64 0), (.int .i64 0), (.int .i64 0), (.int .i64 0), (.int .i64 0), (.int .i64 0), (.int .i64 0), (.int .i64 0), (.int .i64 0), (.int .i64 0), (.int .i64 0), (.int .i64 0)]⟩])
(.seq (.seq (.region [⟨some 8, none, .mov (.t 1)⟩, ⟨some 9, none, .lenSl (.t 8)⟩, ⟨some 10, none, .mov (.c (.int .i64 0))⟩])
(.block 0 (.loop (.seq (.region [⟨some 11, none, .bin .lss (.t 10) (.t 9)⟩])
(.seq (.cond (.t 11) .skip (.exit 0))
(.seq (.block 1 (.seq (.region [⟨some 12, none, .indexAddrS 1 (.t 8) (.t 10)⟩, ⟨some 13, none, .load1 (.t 12)⟩, ⟨some 7, none, .mov (.t 13)⟩])
(.region [⟨some 14, none, .mov (.t 7)⟩, ⟨some 15, none, .mov (.t 7)⟩, ⟨some 16, none, .indexAddrA 16 1 (.t 2) (.t 15)⟩, ⟨some 17, none, .load1 (.t 16)⟩, ⟨some 18, none, .indexAddrA 16 1 (.t 5) (.t 14)⟩, ⟨none, none, .store 1 (.t 18) (.t 17)⟩])))
(.region [⟨some 19, none, .bin .add (.t 10) (.c (.int .i64 1))⟩, ⟨some 10, none, .mov (.t 19)⟩])))))))
(.seq (.region [⟨some 20, none, .loadN 16 (.t 5)⟩, ⟨none, none, .store 16 (.t 4) (.t 20)⟩])
.ret))))⟩
theorem ok217 : Fok 217 d217 := ⟨_, Tryz.func217, by kernel_rfl⟩
/- (stint/record.numbers).may -/
def d218 : DFunc := ⟨2, [.tmp 4], (.seq (.region [⟨some 2, none, .box (.t 0)⟩, ⟨some 4, none, .mov (.c (.bool false))⟩])
(.seq (.seq (.region [⟨some 5, none, .mov (.t 1)⟩])
(.block 0 (.seq (.region [⟨some 7, none, .bin .eql (.t 5) (.c (.int .i64 1))⟩, ⟨some 6, none, .mov (.t 7)⟩])
(.cond (.t 6) (.seq (.region [⟨some 8, none, .indexAddrA 16 1 (.t 2) (.c (.int .i64 13))⟩, ⟨some 9, none, .load1 (.t 8)⟩, ⟨some 10, none, .callF 85 [(.t 9), (.c (.int .i64 1)), (.c (.int .i64 1099511627776))]⟩, ⟨some 11, none, .mov (.t 10)⟩, ⟨some 12, some (11, true), .indexAddrA 16 1 (.t 2) (.c (.int .i64 14))⟩, ⟨some 13, some (11, true), .load1 (.t 12)⟩, ⟨some 14, some (11, true), .callF 85 [(.t 13), (.c (.int .i64 1)), (.c (.int .i64 1099511627777))]⟩, ⟨some 15, none, .pick (.t 11) (.t 14) (.c (.bool false))⟩, ⟨some 4, none, .mov (.t 15)⟩])
.ret) (.seq (.region [⟨some 17, none, .bin .eql (.t 5) (.c (.int .i64 2))⟩, ⟨some 16, none, .mov (.t 17)⟩])
(.cond (.t 16) (.seq (.region [⟨some 18, none, .loadN 16 (.t 2)⟩, ⟨some 19, none, .callF 245 [(.t 18)]⟩, ⟨some 20, none, .mov (.t 19)⟩, ⟨some 21, some (20, true), .indexAddrA 16 1 (.t 2) (.c (.int .i64 3))⟩, ⟨some 22, some (20, true), .load1 (.t 21)⟩, ⟨some 23, some (20, true), .callF 85 [(.t 22), (.c (.int .i64 1)), (.c (.int .i64 4294967295))]⟩, ⟨some 24, none, .pick (.t 20) (.t 23) (.c (.bool false))⟩, ⟨some 25, none, .mov (.t 24)⟩, ⟨some 26, some (25, true), .indexAddrA 16 1 (.t 2) (.c (.int .i64 4))⟩, ⟨some 27, some (25, true), .load1 (.t 26)⟩, ⟨some 28, some (25, true), .callF 85 [(.t 27), (.c (.int .i64 0)), (.c (.int .i64 1099511627776))]⟩, ⟨some 29, none, .pick (.t 25) (.t 28) (.c (.bool false))⟩, ⟨some 4, none, .mov (.t 29)⟩])
.ret) (.seq (.region [⟨some 31, none, .bin .eql (.t 5) (.c (.int .i64 3))⟩, ⟨some 30, none, .mov (.t 31)⟩])
(.cond (.t 30) (.seq (.region [⟨some 32, none, .loadN 16 (.t 2)⟩, ⟨some 33, none, .callF 245 [(.t 32)]⟩, ⟨some 4, none, .mov (.t 33)⟩])
.ret) .skip))))))))
(.seq (.region [⟨some 34, none, .indexAddrA 16 1 (.t 2) (.c (.int .i64 15))⟩, ⟨some 35, none, .load1 (.t 34)⟩, ⟨some 36, none, .callF 85 [(.t 35), (.c (.int .i64 1)), (.c (.int .i64 1099511627776))]⟩, ⟨some 4, none, .mov (.t 36)⟩])
.ret)))⟩
theorem ok218 : Fok 218 d218 := ⟨_, Tryz.func218, by kernel_rfl⟩
/- stint/frame.table -/
def d219 : DFunc := ⟨0, [.cell 0 16 true], (.seq (.region [⟨some 0, none, .alloc [(.int .u32 0), (.int .u32 0), (.int .u32 0), (.int .u32 0), (.int .u32 0), (.int .u32 0), (.int .u32 0), (.int .u32 0), (.int .u32 0), (.int .u32 0), (.int .u32 0), (.int .u32 0), (.int .u32 0), (.int .u32 0), (.int .u32 0), (.int .u32 0)]⟩])
(.seq (.region [⟨some 1, none, .build [(.int .u32 0), (.int .u32 0), (.int .u32 0), (.int .u32 0), (.int .u32 0), (.int .u32 0), (.int .u32 0), (.int .u32 0), (.int .u32 0), (.int .u32 0), (.int .u32 0), (.int .u32 0), (.int .u32 0), (.int .u32 0), (.int .u32 0), (.int .u32 0)] [(0, 1, (.c (.int .u32 0))), (1, 1, (.c (.int .u32 498536548))), (2, 1, (.c (.int .u32 997073096))), (3, 1, (.c (.int .u32 651767980))), (4, 1, (.c (.int .u32 1994146192))), (5, 1, (.c (.int .u32 1802195444))), (6, 1, (.c (.int .u32 1303535960))), (7, 1, (.c (.int .u32 1342533948))), (8, 1, (.c (.int .u32 3988292384))), (9, 1, (.c (.int .u32 4027552580))), (10, 1, (.c (.int .u32 3604390888))), (11, 1, (.c (.int .u32 3412177804))), (12, 1, (.c (.int .u32 2607071920))), (13, 1, (.c (.int .u32 2262029012))), (14, 1, (.c (.int .u32 2685067896))), (15, 1, (.c (.int .u32 3183342108)))]⟩, ⟨none, none, .store 16 (.t 0) (.t 1)⟩])
.ret))⟩
theorem ok219 : Fok 219 d219 := ⟨_, Tryz.func219, by kernel_rfl⟩
/- stint/frame.over -/
def d220 : DFunc := ⟨3, [.tmp 6], (.seq (.region [⟨some 6, none, .mov (.c (.int .u32 0))⟩])
(.seq (.seq (.region [⟨some 9, none, .mov (.t 2)⟩, ⟨some 10, none, .lenSl (.t 9)⟩, ⟨some 11, none, .mov (.c (.int .i64 0))⟩])
(.block 0 (.loop (.seq (.region [⟨some 12, none, .bin .lss (.t 11) (.t 10)⟩])
(.seq (.cond (.t 12) .skip (.exit 0))
(.seq (.block 1 (.seq (.region [⟨some 13, none, .indexAddrS 1 (.t 9) (.t 11)⟩, ⟨some 14, none, .load1 (.t 13)⟩, ⟨some 8, none, .mov (.t 14)⟩])
(.seq (.region [⟨some 15, none, .mov (.t 0)⟩, ⟨some 16, none, .mov (.t 8)⟩, ⟨some 17, none, .convInt .u32 (.t 16)⟩, ⟨some 18, none, .bin .xor (.t 15) (.t 17)⟩, ⟨some 0, none, .mov (.t 18)⟩])
(.seq (.region [⟨some 19, none, .mov (.t 0)⟩, ⟨some 20, none, .bin .shr (.t 19) (.c (.int .u64 4))⟩, ⟨some 21, none, .mov (.t 1)⟩, ⟨some 22, none, .mov (.t 0)⟩, ⟨some 23, none, .bin .and (.t 22) (.c (.int .u32 15))⟩, ⟨some 24, none, .nilCheck (.t 21)⟩, ⟨some 25, none, .indexAddrA 16 1 (.t 24) (.t 23)⟩, ⟨some 26, none, .load1 (.t 25)⟩, ⟨some 27, none, .bin .xor (.t 20) (.t 26)⟩, ⟨some 0, none, .mov (.t 27)⟩])
(.region [⟨some 28, none, .mov (.t 0)⟩, ⟨some 29, none, .bin .shr (.t 28) (.c (.int .u64 4))⟩, ⟨some 30, none, .mov (.t 1)⟩, ⟨some 31, none, .mov (.t 0)⟩, ⟨some 32, none, .bin .and (.t 31) (.c (.int .u32 15))⟩, ⟨some 33, none, .nilCheck (.t 30)⟩, ⟨some 34, none, .indexAddrA 16 1 (.t 33) (.t 32)⟩, ⟨some 35, none, .load1 (.t 34)⟩, ⟨some 36, none, .bin .xor (.t 29) (.t 35)⟩, ⟨some 0, none, .mov (.t 36)⟩])))))
(.region [⟨some 37, none, .bin .add (.t 11) (.c (.int .i64 1))⟩, ⟨some 11, none, .mov (.t 37)⟩])))))))
(.seq (.region [⟨some 38, none, .mov (.t 0)⟩, ⟨some 6, none, .mov (.t 38)⟩])
.ret)))⟩
theorem ok220 : Fok 220 d220 := ⟨_, Tryz.func220, by kernel_rfl⟩
/- slices.insertionSortOrdered[string] -/
def d221 : DFunc := ⟨3, [], (.seq (.region [⟨some 8, none, .mov (.t 1)⟩, ⟨some 9, none, .bin .add (.t 8) (.c (.int .i64 1))⟩, ⟨some 6, none, .mov (.t 9)⟩])
(.block 0 (.loop (.seq (.seq (.region [⟨some 10, none, .mov (.t 6)⟩, ⟨some 11, none, .mov (.t 2)⟩, ⟨some 12, none, .bin .lss (.t 10) (.t 11)⟩])
(.cond (.t 12) .skip (.exit 0)))
(.seq (.block 1 (.seq (.region [⟨some 15, none, .mov (.t 6)⟩, ⟨some 7, none, .mov (.t 15)⟩])
(.block 2 (.loop (.seq (.seq (.draw [(⟨some 16, none, .mov (.t 7)⟩, .pure), (⟨some 17, none, .mov (.t 1)⟩, .pure), (⟨some 18, none, .bin .gtr (.t 16) (.t 17)⟩, .pure), (⟨some 19, none, .mov (.t 18)⟩, .pure), (⟨some 20, some (19, true), .mov (.t 0)⟩, .pure), (⟨some 21, some (19, true), .mov (.t 7)⟩, .pure), (⟨some 22, some (19, true), .indexAddrS 1 (.t 20) (.t 21)⟩, .pure), (⟨some 23, some (19, true), .load1 (.t 22)⟩, .read [13]), (⟨some 24, some (19, true), .mov (.t 0)⟩, .pure), (⟨some 25, some (19, true), .mov (.t 7)⟩, .pure), (⟨some 26, some (19, true), .bin .sub (.t 25) (.c (.int .i64 1))⟩, .pure), (⟨some 27, some (19, true), .indexAddrS 1 (.t 24) (.t 26)⟩, .pure), (⟨some 28, some (19, true), .load1 (.t 27)⟩, .read [13]), (⟨some 29, some (19, true), .callF 227 [(.t 23), (.t 28)]⟩, .alone 13), (⟨some 30, none, .pick (.t 19) (.t 29) (.c (.bool false))⟩, .pure)])
(.cond (.t 30) .skip (.exit 2)))
(.seq (.block 3 (.draw [(⟨some 33, none, .mov (.t 0)⟩, .pure), (⟨some 34, none, .mov (.t 7)⟩, .pure), (⟨some 35, none, .mov (.t 0)⟩, .pure), (⟨some 36, none, .mov (.t 7)⟩, .pure), (⟨some 37, none, .bin .sub (.t 36) (.c (.int .i64 1))⟩, .pure), (⟨some 38, none, .mov (.t 0)⟩, .pure), (⟨some 39, none, .mov (.t 7)⟩, .pure), (⟨some 40, none, .bin .sub (.t 39) (.c (.int .i64 1))⟩, .pure), (⟨some 41, none, .indexAddrS 1 (.t 38) (.t 40)⟩, .pure), (⟨some 42, none, .load1 (.t 41)⟩, .read [17, 15]), (⟨some 43, none, .mov (.t 0)⟩, .pure), (⟨some 44, none, .mov (.t 7)⟩, .pure), (⟨some 45, none, .indexAddrS 1 (.t 43) (.t 44)⟩, .pure), (⟨some 46, none, .load1 (.t 45)⟩, .read [17, 15]), (⟨some 47, none, .indexAddrS 1 (.t 33) (.t 34)⟩, .pure), (⟨none, none, .store 1 (.t 47) (.t 42)⟩, .alone 15), (⟨some 48, none, .indexAddrS 1 (.t 35) (.t 37)⟩, .pure), (⟨none, none, .store 1 (.t 48) (.t 46)⟩, .alone 17)]))
(.region [⟨some 31, none, .mov (.t 7)⟩, ⟨some 32, none, .bin .sub (.t 31) (.c (.int .i64 1))⟩, ⟨some 7, none, .mov (.t 32)⟩])))))))
(.region [⟨some 13, none, .mov (.t 6)⟩, ⟨some 14, none, .bin .add (.t 13) (.c (.int .i64 1))⟩, ⟨some 6, none, .mov (.t 14)⟩]))))))⟩
theorem ok221 : Fok 221 d221 := ⟨_, Tryz.func221, by kernel_rfl⟩
/- strings.Count -/
def d236 : DFunc := ⟨2, [.tmp 4], (.seq (.region [⟨some 4, none, .mov (.c (.int .i64 0))⟩])
(.seq (.seq (.region [⟨some 7, none, .mov (.t 1)⟩, ⟨some 8, none, .lenStr (.t 7)⟩, ⟨some 9, none, .bin .eql (.t 8) (.c (.int .i64 0))⟩])
(.cond (.t 9) (.seq (.region [⟨some 10, none, .mov (.t 0)⟩, ⟨some 11, none, .callF 253 [(.t 10)]⟩, ⟨some 12, none, .bin .add (.t 11) (.c (.int .i64 1))⟩, ⟨some 4, none, .mov (.t 12)⟩])
.ret) .skip))
(.seq (.seq (.region [⟨some 13, none, .mov (.t 1)⟩, ⟨some 14, none, .lenStr (.t 13)⟩, ⟨some 15, none, .bin .eql (.t 14) (.c (.int .i64 1))⟩])
(.cond (.t 15) (.seq (.region [⟨some 16, none, .mov (.t 0)⟩, ⟨some 17, none, .mov (.t 1)⟩, ⟨some 18, none, .indexStr (.t 17) (.c (.int .i64 0))⟩, ⟨some 19, none, .callF 255 [(.t 16), (.t 18)]⟩, ⟨some 4, none, .mov (.t 19)⟩])
.ret) .skip))
(.seq (.region [⟨some 5, none, .mov (.c (.int .i64 0))⟩])
(.block 0 (.loop (.block 1 (.seq (.region [⟨some 20, none, .mov (.t 0)⟩, ⟨some 21, none, .mov (.t 1)⟩, ⟨some 22, none, .callF 237 [(.t 20), (.t 21)]⟩, ⟨some 6, none, .mov (.t 22)⟩])
(.seq (.seq (.region [⟨some 23, none, .mov (.t 6)⟩, ⟨some 24, none, .bin .eql (.t 23) (.c (.int .i64 (-1)))⟩])
(.cond (.t 24) (.seq (.region [⟨some 25, none, .mov (.t 5)⟩, ⟨some 4, none, .mov (.t 25)⟩])
.ret) .skip))
(.seq (.region [⟨some 26, none, .mov (.t 5)⟩, ⟨some 27, none, .bin .add (.t 26) (.c (.int .i64 1))⟩, ⟨some 5, none, .mov (.t 27)⟩])
(.region [⟨some 28, none, .mov (.t 0)⟩, ⟨some 29, none, .mov (.t 6)⟩, ⟨some 30, none, .mov (.t 1)⟩, ⟨some 31, none, .lenStr (.t 30)⟩, ⟨some 32, none, .bin .add (.t 29) (.t 31)⟩, ⟨some 33, none, .sliceStr (.t 28) (some (.t 32)) none⟩, ⟨some 0, none, .mov (.t 33)⟩])))))))))))⟩
theorem ok236 : Fok 236 d236 := ⟨_, Tryz.func236, by kernel_rfl⟩
/- strings.Index -/
def d237 : DFunc := ⟨2, [.tmp 4], (.seq (.region [⟨some 4, none, .mov (.c (.int .i64 0))⟩])
(.seq (.region [⟨some 5, none, .mov (.t 0)⟩, ⟨some 6, none, .mov (.t 1)⟩, ⟨some 7, none, .callF 196 [(.t 5), (.t 6)]⟩, ⟨some 4, none, .mov (.t 7)⟩])
.ret))⟩
theorem ok237 : Fok 237 d237 := ⟨_, Tryz.func237, by kernel_rfl⟩
/- (*stint/heap.Heap[stint/yard.spot]).up -/
def d242 : DFunc := ⟨2, [], (.block 0 (.loop (.seq (.seq (.region [⟨some 4, none, .mov (.t 1)⟩, ⟨some 5, none, .bin .gtr (.t 4) (.c (.int .i64 0))⟩, ⟨some 6, none, .mov (.t 5)⟩, ⟨some 7, some (6, true), .mov (.t 0)⟩, ⟨some 8, some (6, true), .mov (.t 1)⟩, ⟨some 9, some (6, true), .mov (.t 1)⟩, ⟨some 10, some (6, true), .bin .sub (.t 9) (.c (.int .i64 1))⟩, ⟨some 11, some (6, true), .bin .quo (.t 10) (.c (.int .i64 2))⟩, ⟨some 12, some (6, true), .callF 258 [(.t 7), (.t 8), (.t 11)]⟩, ⟨some 13, none, .pick (.t 6) (.t 12) (.c (.bool false))⟩])
(.cond (.t 13) .skip (.exit 0)))
(.block 1 (.seq (.region [⟨some 14, none, .mov (.t 0)⟩, ⟨some 15, none, .mov (.t 1)⟩, ⟨some 16, none, .mov (.t 1)⟩, ⟨some 17, none, .bin .sub (.t 16) (.c (.int .i64 1))⟩, ⟨some 18, none, .bin .quo (.t 17) (.c (.int .i64 2))⟩, ⟨some 19, none, .callF 259 [(.t 14), (.t 15), (.t 18)]⟩])
(.region [⟨some 20, none, .mov (.t 1)⟩, ⟨some 21, none, .bin .sub (.t 20) (.c (.int .i64 1))⟩, ⟨some 22, none, .bin .quo (.t 21) (.c (.int .i64 2))⟩, ⟨some 1, none, .mov (.t 22)⟩]))))))⟩
theorem ok242 : Fok 242 d242 := ⟨_, Tryz.func242, by kernel_rfl⟩
/- (stint/record.numbers).job -/
def d245 : DFunc := ⟨1, [.tmp 2], (.seq (.region [⟨some 1, none, .box (.t 0)⟩, ⟨some 2, none, .mov (.c (.bool false))⟩])
(.seq (.region [⟨some 7, none, .indexAddrA 16 1 (.t 1) (.c (.int .i64 6))⟩, ⟨some 8, none, .load1 (.t 7)⟩, ⟨some 9, none, .callF 85 [(.t 8), (.c (.int .i64 0)), (.c (.int .i64 0))]⟩, ⟨some 3, none, .mov (.t 9)⟩])
(.seq (.region [⟨some 10, none, .indexAddrA 16 1 (.t 1) (.c (.int .i64 7))⟩, ⟨some 11, none, .load1 (.t 10)⟩, ⟨some 12, none, .callF 85 [(.t 11), (.c (.int .i64 0)), (.c (.int .i64 0))]⟩, ⟨some 4, none, .mov (.t 12)⟩])
(.seq (.seq (.region [⟨some 13, none, .indexAddrA 16 1 (.t 1) (.c (.int .i64 5))⟩, ⟨some 14, none, .load1 (.t 13)⟩])
(.block 0 (.seq (.region [⟨some 16, none, .bin .eql (.t 14) (.c (.int .i64 1))⟩, ⟨some 15, none, .mov (.t 16)⟩])
(.cond (.t 15) .skip (.seq (.region [⟨some 18, none, .bin .eql (.t 14) (.c (.int .i64 2))⟩, ⟨some 17, none, .mov (.t 18)⟩])
(.cond (.t 17) (.region [⟨some 19, none, .indexAddrA 16 1 (.t 1) (.c (.int .i64 6))⟩, ⟨some 20, none, .load1 (.t 19)⟩, ⟨some 21, none, .callF 85 [(.t 20), (.c (.int .i64 1)), (.c (.int .i64 1103806595071))]⟩, ⟨some 3, none, .mov (.t 21)⟩]) (.seq (.region [⟨some 23, none, .bin .eql (.t 14) (.c (.int .i64 4))⟩, ⟨some 22, none, .mov (.t 23)⟩])
(.cond (.t 22) (.region [⟨some 24, none, .indexAddrA 16 1 (.t 1) (.c (.int .i64 7))⟩, ⟨some 25, none, .load1 (.t 24)⟩, ⟨some 26, none, .callF 85 [(.t 25), (.c (.int .i64 1)), (.c (.int .i64 4611686018427387903))]⟩, ⟨some 4, none, .mov (.t 26)⟩]) (.seq (.region [⟨some 2, none, .mov (.c (.bool false))⟩])
.ret)))))))))
(.seq (.seq (.region [⟨some 27, none, .sliceArr 16 1 (.t 1) (some (.c (.int .i64 8))) (some (.c (.int .i64 13)))⟩, ⟨some 28, none, .lenSl (.t 27)⟩, ⟨some 29, none, .mov (.c (.int .i64 0))⟩])
(.block 1 (.loop (.seq (.region [⟨some 30, none, .bin .lss (.t 29) (.t 28)⟩])
(.seq (.cond (.t 30) .skip (.exit 1))
(.seq (.block 2 (.seq (.region [⟨some 31, none, .indexAddrS 1 (.t 27) (.t 29)⟩, ⟨some 32, none, .load1 (.t 31)⟩, ⟨some 6, none, .mov (.t 32)⟩])
(.seq (.region [⟨some 33, none, .mov (.t 6)⟩, ⟨some 34, none, .callF 85 [(.t 33), (.c (.int .i64 0)), (.c (.int .i64 4611686018427387903))]⟩, ⟨some 35, none, .un .not (.t 34)⟩])
(.cond (.t 35) (.seq (.region [⟨some 2, none, .mov (.c (.bool false))⟩])
.ret) .skip))))
(.region [⟨some 36, none, .bin .add (.t 29) (.c (.int .i64 1))⟩, ⟨some 29, none, .mov (.t 36)⟩])))))))
(.seq (.region [⟨some 37, none, .mov (.t 3)⟩, ⟨some 38, none, .mov (.t 37)⟩, ⟨some 39, some (38, true), .mov (.t 4)⟩, ⟨some 40, none, .pick (.t 38) (.t 39) (.c (.bool false))⟩, ⟨some 41, none, .mov (.t 40)⟩, ⟨some 42, some (41, true), .indexAddrA 16 1 (.t 1) (.c (.int .i64 0))⟩, ⟨some 43, some (41, true), .load1 (.t 42)⟩, ⟨some 44, some (41, true), .callF 85 [(.t 43), (.c (.int .i64 1)), (.c (.int .i64 1099511627776))]⟩, ⟨some 45, none, .pick (.t 41) (.t 44) (.c (.bool false))⟩, ⟨some 46, none, .mov (.t 45)⟩, ⟨some 47, some (46, true), .indexAddrA 16 1 (.t 1) (.c (.int .i64 1))⟩, ⟨some 48, some (46, true), .load1 (.t 47)⟩, ⟨some 49, some (46, true), .callF 85 [(.t 48), (.c (.int .i64 0)), (.c (.int .i64 4294967295))]⟩, ⟨some 50, none, .pick (.t 46) (.t 49) (.c (.bool false))⟩, ⟨some 51, none, .mov (.t 50)⟩, ⟨some 52, some (51, true), .indexAddrA 16 1 (.t 1) (.c (.int .i64 2))⟩, ⟨some 53, some (51, true), .load1 (.t 52)⟩, ⟨some 54, some (51, true), .callF 85 [(.t 53), (.c (.int .i64 0)), (.c (.int .i64 4294967295))]⟩, ⟨some 55, none, .pick (.t 51) (.t 54) (.c (.bool false))⟩, ⟨some 2, none, .mov (.t 55)⟩])
.ret))))))⟩
theorem ok245 : Fok 245 d245 := ⟨_, Tryz.func245, by kernel_rfl⟩
/- (*stint/ledger.Ledger).fresh -/
def d287 : DFunc := ⟨1, [], (.seq (.region [⟨some 3, none, .mov (.t 0)⟩, ⟨some 4, none, .callF 89 [(.t 3)]⟩, ⟨some 2, none, .mov (.t 4)⟩])
(.seq (.region [⟨some 5, none, .mov (.t 0)⟩, ⟨some 6, none, .nilCheck (.t 5)⟩, ⟨some 7, none, .fieldAddr 3 (.t 6)⟩, ⟨some 8, none, .load1 (.t 7)⟩, ⟨some 9, none, .lenMap (.t 8)⟩, ⟨some 10, none, .bin .eql (.t 9) (.c (.int .i64 0))⟩, ⟨some 11, none, .mov (.t 10)⟩, ⟨some 12, some (11, true), .mov (.t 2)⟩, ⟨some 13, some (11, true), .nilCheck (.t 12)⟩, ⟨some 14, some (11, true), .fieldAddr 1 (.t 13)⟩, ⟨some 15, some (11, true), .load1 (.t 14)⟩, ⟨some 16, some (11, true), .bin .gtr (.t 15) (.c (.int .i64 25))⟩, ⟨some 17, none, .pick (.t 11) (.t 16) (.c (.bool false))⟩, ⟨some 18, none, .mov (.t 17)⟩, ⟨some 19, some (18, true), .mov (.t 2)⟩, ⟨some 20, some (18, true), .nilCheck (.t 19)⟩, ⟨some 21, some (18, true), .fieldAddr 0 (.t 20)⟩, ⟨some 22, some (18, true), .load1 (.t 21)⟩, ⟨some 23, some (18, true), .bin .neq (.t 22) (.c (.int .i64 1099511627776))⟩, ⟨some 24, none, .pick (.t 18) (.t 23) (.c (.bool false))⟩])
(.cond (.t 24) (.seq (.region [⟨some 25, none, .mov (.t 0)⟩, ⟨some 26, none, .mov (.t 2)⟩, ⟨some 27, none, .nilCheck (.t 26)⟩, ⟨some 28, none, .fieldAddr 0 (.t 27)⟩, ⟨some 29, none, .load1 (.t 28)⟩, ⟨some 30, none, .bin .add (.t 29) (.c (.int .i64 1))⟩, ⟨some 31, none, .callF 70 [(.t 25), (.t 30)]⟩])
(.seq (.region [⟨some 32, none, .mov (.t 0)⟩, ⟨some 33, none, .callF 71 [(.t 32)]⟩])
(.region [⟨some 34, none, .mov (.t 0)⟩, ⟨some 35, none, .callF 315 [(.t 34)]⟩]))) .skip)))⟩
theorem ok287 : Fok 287 d287 := ⟨_, Tryz.func287, by kernel_rfl⟩
/- (stint/engine.putDeed).do -/
def d300 : DFunc := ⟨3, [], (.seq (.region [⟨some 3, none, .box (.t 0)⟩])
(.seq (.seq (.region [⟨some 12, none, .mov (.t 1)⟩, ⟨some 13, none, .nilCheck (.t 12)⟩, ⟨some 14, none, .fieldAddr 8 (.t 13)⟩, ⟨some 15, none, .load1 (.t 14)⟩])
(.cond (.t 15) (.seq (.region [⟨some 16, none, .mov (.t 1)⟩, ⟨some 17, none, .mov (.t 2)⟩, ⟨some 18, none, .callF 301 [(.t 16), (.t 17), (.c (.int .i64 23))]⟩])
.ret) .skip))
(.seq (.region [⟨some 20, none, .mov (.t 1)⟩, ⟨some 21, none, .nilCheck (.t 20)⟩, ⟨some 22, none, .fieldAddr 7 (.t 21)⟩, ⟨some 23, none, .load1 (.t 22)⟩, ⟨some 24, none, .mov (.t 2)⟩, ⟨some 25, none, .callF 90 [(.t 23), (.t 24)]⟩, ⟨some 19, none, .mov (.t 25)⟩, ⟨some 26, none, .extract (.t 19) 0⟩, ⟨some 27, none, .extract (.t 19) 1⟩, ⟨some 6, none, .alloc [(.int .i64 0), (.str []), .nilSlice, (.bool false), (.int .i64 0), (.bool false), (.bool false)]⟩, ⟨none, none, .store 7 (.t 6) (.t 26)⟩, ⟨some 7, none, .mov (.t 27)⟩])
(.seq (.draw [(⟨some 28, none, .fieldAddr 0 (.t 3)⟩, .pure), (⟨some 29, none, .fieldAddr 2 (.t 28)⟩, .pure), (⟨some 30, none, .load1 (.t 29)⟩, .read [20, 18]), (⟨some 31, none, .fieldAddr 0 (.t 3)⟩, .pure), (⟨some 32, none, .fieldAddr 3 (.t 31)⟩, .pure), (⟨some 33, none, .load1 (.t 32)⟩, .read [20, 18]), (⟨some 34, none, .fieldAddr 0 (.t 3)⟩, .pure), (⟨some 35, none, .fieldAddr 4 (.t 34)⟩, .pure), (⟨some 36, none, .load1 (.t 35)⟩, .read [20, 18]), (⟨some 37, none, .mov (.t 1)⟩, .pure), (⟨some 38, none, .nilCheck (.t 37)⟩, .pure), (⟨some 39, none, .fieldAddr 3 (.t 38)⟩, .pure), (⟨some 40, none, .load1 (.t 39)⟩, .read [20, 18]), (⟨some 41, none, .fieldAddr 1 (.t 6)⟩, .pure), (⟨some 42, none, .load1 (.t 41)⟩, .read [20, 18]), (⟨some 43, none, .fieldAddr 0 (.t 3)⟩, .pure), (⟨some 44, none, .fieldAddr 7 (.t 43)⟩, .pure), (⟨some 45, none, .load1 (.t 44)⟩, .read [20, 18]), (⟨some 46, none, .build [(.int .i64 0), (.int .i64 0), (.int .i64 0), (.int .i64 0), (.int .i64 0), (.int .i64 0), (.int .i64 0), (.int .i64 0), (.int .i64 0), (.int .i64 0), (.int .i64 0), (.int .i64 0), (.int .i64 0), (.str []), .nilSlice] [(1, 1, (.t 30)), (2, 1, (.t 33)), (3, 1, (.t 36)), (4, 1, (.t 40)), (5, 1, (.c (.int .i64 1))), (13, 1, (.t 42)), (14, 1, (.t 45))]⟩, .alone 18), (⟨some 8, none, .alloc [(.int .i64 0), (.int .i64 0), (.int .i64 0), (.int .i64 0), (.int .i64 0), (.int .i64 0), (.int .i64 0), (.int .i64 0), (.int .i64 0), (.int .i64 0), (.int .i64 0), (.int .i64 0), (.int .i64 0), (.str []), .nilSlice]⟩, .late), (⟨none, none, .store 15 (.t 8) (.t 46)⟩, .alone 20)])
(.seq (.seq (.region [⟨some 47, none, .fieldAddr 0 (.t 3)⟩, ⟨some 48, none, .fieldAddr 3 (.t 47)⟩, ⟨some 49, none, .load1 (.t 48)⟩, ⟨some 50, none, .bin .gtr (.t 49) (.c (.int .i64 0))⟩])
(.cond (.t 50) (.draw [(⟨some 51, none, .mov (.t 1)⟩, .pure), (⟨some 52, none, .nilCheck (.t 51)⟩, .pure), (⟨some 53, none, .fieldAddr 3 (.t 52)⟩, .pure), (⟨some 54, none, .load1 (.t 53)⟩, .read [11]), (⟨some 55, none, .fieldAddr 0 (.t 3)⟩, .pure), (⟨some 56, none, .fieldAddr 3 (.t 55)⟩, .pure), (⟨some 57, none, .load1 (.t 56)⟩, .read [11]), (⟨some 58, none, .bin .add (.t 54) (.t 57)⟩, .pure), (⟨some 59, none, .fieldAddr 5 (.t 8)⟩, .pure), (⟨none, none, .store 1 (.t 59) (.c (.int .i64 2))⟩, .alone 9), (⟨some 60, none, .fieldAddr 6 (.t 8)⟩, .pure), (⟨none, none, .store 1 (.t 60) (.t 58)⟩, .alone 11)]) .skip))
(.seq (.draw [(⟨some 62, none, .mov (.t 1)⟩, .pure), (⟨some 63, none, .nilCheck (.t 62)⟩, .pure), (⟨some 64, none, .fieldAddr 5 (.t 63)⟩, .pure), (⟨some 65, none, .load1 (.t 64)⟩, .read [5]), (⟨some 66, none, .loadN 15 (.t 8)⟩, .read [5]), (⟨some 67, none, .callF 302 [(.t 65), (.t 66)]⟩, .alone 5), (⟨some 61, none, .mov (.t 67)⟩, .pure), (⟨some 68, none, .extract (.t 61) 0⟩, .pure), (⟨some 69, none, .extract (.t 61) 1⟩, .pure), (⟨some 70, none, .extract (.t 61) 2⟩, .pure), (⟨some 9, none, .mov (.t 68)⟩, .pure), (⟨some 10, none, .mov (.t 69)⟩, .pure), (⟨some 11, none, .mov (.t 70)⟩, .pure)])
(.seq (.seq (.region [⟨some 71, none, .mov (.t 11)⟩, ⟨some 72, none, .bin .neq (.t 71) (.c (.int .i64 0))⟩])
(.cond (.t 72) (.seq (.region [⟨some 73, none, .mov (.t 1)⟩, ⟨some 74, none, .mov (.t 2)⟩, ⟨some 75, none, .callF 301 [(.t 73), (.t 74), (.c (.int .i64 18))]⟩])
.ret) .skip))
(.seq (.region [⟨some 76, none, .mov (.t 1)⟩, ⟨some 77, none, .mov (.t 10)⟩, ⟨some 78, none, .callF 303 [(.t 76), (.t 77)]⟩])
(.seq (.region [⟨some 79, none, .mov (.t 9)⟩, ⟨some 80, none, .fieldAddr 0 (.t 8)⟩, ⟨none, none, .store 1 (.t 80) (.t 79)⟩])
(.seq (.region [⟨some 81, none, .mov (.t 1)⟩, ⟨some 82, none, .loadN 15 (.t 8)⟩, ⟨some 83, none, .callF 305 [(.t 82)]⟩, ⟨some 84, none, .callF 304 [(.t 81), (.t 83)]⟩])
(.seq (.region [⟨some 85, none, .mov (.t 1)⟩, ⟨some 86, none, .mov (.t 2)⟩, ⟨some 87, none, .mov (.t 9)⟩, ⟨some 88, none, .build [(.int .i64 0), (.int .i64 0), (.int .i64 0), (.str []), .nilSlice] [(0, 1, (.c (.int .i64 1))), (1, 1, (.t 87))]⟩, ⟨some 89, none, .callF 207 [(.t 85), (.t 86), (.t 88)]⟩])
(.region [⟨some 90, none, .mov (.t 1)⟩, ⟨some 91, none, .callF 101 [(.t 90)]⟩]))))))))))))⟩
theorem ok300 : Fok 300 d300 := ⟨_, Tryz.func300, by kernel_rfl⟩
/- (*stint/ledger.Ledger).Put -/
def d302 : DFunc := ⟨2, [.tmp 4, .tmp 5, .tmp 6], (.seq (.region [⟨some 3, none, .box (.t 1)⟩, ⟨some 4, none, .mov (.c (.int .i64 0))⟩, ⟨some 5, none, .mov (.c .nilSlice)⟩, ⟨some 6, none, .mov (.c (.int .i64 0))⟩])
(.seq (.region [⟨some 8, none, .fieldAddr 0 (.t 3)⟩, ⟨none, none, .store 1 (.t 8) (.c (.int .i64 1))⟩])
(.seq (.seq (.region [⟨some 9, none, .loadN 15 (.t 3)⟩, ⟨some 10, none, .callF 306 [(.t 9)]⟩, ⟨some 11, none, .callF 183 [(.t 10)]⟩, ⟨some 12, none, .bin .neq (.t 11) (.c (.int .i64 0))⟩, ⟨some 13, none, .mov (.t 12)⟩, ⟨some 14, some (13, false), .fieldAddr 5 (.t 3)⟩, ⟨some 15, some (13, false), .load1 (.t 14)⟩, ⟨some 16, some (13, false), .bin .eql (.t 15) (.c (.int .i64 4))⟩, ⟨some 17, none, .pick (.t 13) (.c (.bool true)) (.t 16)⟩])
(.cond (.t 17) (.seq (.region [⟨some 4, none, .mov (.c (.int .i64 0))⟩, ⟨some 5, none, .mov (.c .nilSlice)⟩, ⟨some 6, none, .mov (.c (.int .i64 140))⟩])
.ret) .skip))
(.seq (.seq (.region [⟨some 18, none, .mov (.t 0)⟩, ⟨some 19, none, .nilCheck (.t 18)⟩, ⟨some 20, none, .fieldAddr 4 (.t 19)⟩, ⟨some 21, none, .load1 (.t 20)⟩, ⟨some 22, none, .bin .gtr (.t 21) (.c (.int .i64 1099511627776))⟩])
(.cond (.t 22) (.seq (.region [⟨some 4, none, .mov (.c (.int .i64 0))⟩, ⟨some 5, none, .mov (.c .nilSlice)⟩, ⟨some 6, none, .mov (.c (.int .i64 141))⟩])
.ret) .skip))
(.seq (.region [⟨some 23, none, .mov (.t 0)⟩, ⟨some 24, none, .nilCheck (.t 23)⟩, ⟨some 25, none, .fieldAddr 4 (.t 24)⟩, ⟨some 26, none, .load1 (.t 25)⟩, ⟨some 27, none, .fieldAddr 0 (.t 3)⟩, ⟨none, none, .store 1 (.t 27) (.t 26)⟩])
(.seq (.region [⟨some 28, none, .loadN 15 (.t 3)⟩, ⟨some 29, none, .callF 306 [(.t 28)]⟩, ⟨some 30, none, .callF 307 [(.t 29)]⟩, ⟨some 7, none, .mov (.t 30)⟩])
(.seq (.seq (.region [⟨some 31, none, .mov (.t 7)⟩, ⟨some 32, none, .mov (.t 0)⟩, ⟨some 33, none, .callF 308 [(.t 32)]⟩, ⟨some 34, none, .bin .add (.t 31) (.t 33)⟩, ⟨some 35, none, .bin .add (.t 34) (.c (.int .i64 42))⟩, ⟨some 36, none, .bin .add (.t 35) (.c (.int .i64 122))⟩, ⟨some 37, none, .mov (.t 0)⟩, ⟨some 38, none, .callF 309 [(.t 37)]⟩, ⟨some 39, none, .bin .gtr (.t 36) (.t 38)⟩])
(.cond (.t 39) (.seq (.region [⟨some 4, none, .mov (.c (.int .i64 0))⟩, ⟨some 5, none, .mov (.c .nilSlice)⟩, ⟨some 6, none, .mov (.c (.int .i64 142))⟩])
.ret) .skip))
(.seq (.region [⟨some 40, none, .fieldAddr 14 (.t 3)⟩, ⟨some 41, none, .load1 (.t 40)⟩, ⟨some 42, none, .callF 37 [(.t 41)]⟩, ⟨some 43, none, .fieldAddr 14 (.t 3)⟩, ⟨none, none, .store 1 (.t 43) (.t 42)⟩])
(.seq (.region [⟨some 44, none, .mov (.t 0)⟩, ⟨some 45, none, .loadN 15 (.t 3)⟩, ⟨some 46, none, .callF 306 [(.t 45)]⟩, ⟨some 47, none, .callF 310 [(.t 44), (.t 46)]⟩])
(.seq (.region [⟨some 48, none, .mov (.t 0)⟩, ⟨some 49, none, .nilCheck (.t 48)⟩, ⟨some 50, none, .fieldAddr 4 (.t 49)⟩, ⟨some 51, none, .load1 (.t 50)⟩, ⟨some 52, none, .bin .add (.t 51) (.c (.int .i64 1))⟩, ⟨some 53, none, .nilCheck (.t 48)⟩, ⟨some 54, none, .fieldAddr 4 (.t 53)⟩, ⟨none, none, .store 1 (.t 54) (.t 52)⟩])
(.seq (.draw [(⟨some 55, none, .mov (.t 0)⟩, .pure), (⟨some 56, none, .nilCheck (.t 55)⟩, .pure), (⟨some 57, none, .fieldAddr 3 (.t 56)⟩, .pure), (⟨some 58, none, .load1 (.t 57)⟩, .read [14]), (⟨some 59, none, .fieldAddr 0 (.t 3)⟩, .pure), (⟨some 60, none, .load1 (.t 59)⟩, .read [14]), (⟨some 61, none, .loadN 15 (.t 3)⟩, .read [14, 13]), (⟨some 62, none, .mov (.t 0)⟩, .pure), (⟨some 67, none, .mov (.t 7)⟩, .pure), (⟨some 63, none, .callF 89 [(.t 62)]⟩, .alone 8), (⟨some 64, none, .nilCheck (.t 63)⟩, .pure), (⟨some 65, none, .fieldAddr 0 (.t 64)⟩, .pure), (⟨some 66, none, .load1 (.t 65)⟩, .read [14, 13]), (⟨some 68, none, .build [(.int .i64 0), (.int .i64 0), (.int .i64 0), (.int .i64 0), (.int .i64 0), (.int .i64 0), (.int .i64 0), (.int .i64 0), (.int .i64 0), (.int .i64 0), (.int .i64 0), (.int .i64 0), (.int .i64 0), (.str []), .nilSlice, (.int .i64 0), (.int .i64 0)] [(0, 15, (.t 61)), (15, 1, (.t 66)), (16, 1, (.t 67))]⟩, .alone 13), (⟨none, none, .mapUpdate false (.t 58) (.t 60) (.t 68)⟩, .alone 14)])
(.seq (.draw [(⟨some 69, none, .fieldAddr 0 (.t 3)⟩, .pure), (⟨some 70, none, .load1 (.t 69)⟩, .read []), (⟨some 71, none, .mov (.t 0)⟩, .pure), (⟨some 72, none, .callF 311 [(.t 71)]⟩, .alone 3), (⟨some 4, none, .mov (.t 70)⟩, .pure), (⟨some 5, none, .mov (.t 72)⟩, .pure), (⟨some 6, none, .mov (.c (.int .i64 0))⟩, .pure)])
.ret))))))))))))⟩
theorem ok302 : Fok 302 d302 := ⟨_, Tryz.func302, by kernel_rfl⟩
/- (*stint/engine.Engine).act -/
def d303 : DFunc := ⟨2, [], (.seq (.region [⟨some 6, none, .mov (.t 1)⟩, ⟨some 7, none, .lenSl (.t 6)⟩, ⟨some 8, none, .mov (.c (.int .i64 0))⟩])
(.block 0 (.loop (.seq (.region [⟨some 9, none, .bin .lss (.t 8) (.t 7)⟩])
(.seq (.cond (.t 9) .skip (.exit 0))
(.seq (.block 1 (.seq (.region [⟨some 10, none, .indexAddrS 4 (.t 6) (.t 8)⟩, ⟨some 11, none, .loadN 4 (.t 10)⟩, ⟨some 5, none, .alloc [(.int .i64 0), (.int .i64 0), .nilSlice, (.int .i64 0)]⟩, ⟨none, none, .store 4 (.t 5) (.t 11)⟩])
(.draw [(⟨some 12, none, .mov (.t 0)⟩, .pure), (⟨some 13, none, .mov (.t 0)⟩, .pure), (⟨some 14, none, .nilCheck (.t 13)⟩, .pure), (⟨some 15, none, .fieldAddr 40 (.t 14)⟩, .pure), (⟨some 16, none, .load1 (.t 15)⟩, .read [11, 8]), (⟨some 17, none, .loadN 4 (.t 5)⟩, .read [11, 8, 7, 6]), (⟨some 18, none, .build [(.int .i64 0), (.int .i64 0), (.int .i64 0), .nilSlice, (.int .i64 0), (.int .i64 0), (.int .i64 0), (.int .i64 0), (.int .i64 0), (.str []), .nilSlice, .nilSlice] [(0, 1, (.c (.int .i64 1))), (1, 4, (.t 17))]⟩, .alone 6), (⟨some 19, none, .buildSlice 1 [(.int .i64 0), (.int .i64 0), (.int .i64 0), .nilSlice, (.int .i64 0), (.int .i64 0), (.int .i64 0), (.int .i64 0), (.int .i64 0), (.str []), .nilSlice, .nilSlice] [(0, 12, (.t 18))]⟩, .alone 7), (⟨some 20, none, .append 12 152 [] (.t 16) (.t 19)⟩, .alone 8), (⟨some 21, none, .nilCheck (.t 12)⟩, .pure), (⟨some 22, none, .fieldAddr 40 (.t 21)⟩, .pure), (⟨none, none, .store 1 (.t 22) (.t 20)⟩, .alone 11)])))
(.region [⟨some 23, none, .bin .add (.t 8) (.c (.int .i64 1))⟩, ⟨some 8, none, .mov (.t 23)⟩])))))))⟩
theorem ok303 : Fok 303 d303 := ⟨_, Tryz.func303, by kernel_rfl⟩
/- (*stint/engine.Engine).add -/
def d304 : DFunc := ⟨2, [], (.seq (.region [⟨some 3, none, .box (.t 1)⟩])
(.seq (.draw [(⟨some 5, none, .mov (.t 0)⟩, .pure), (⟨some 6, none, .nilCheck (.t 5)⟩, .pure), (⟨some 7, none, .fieldAddr 6 (.t 6)⟩, .pure), (⟨some 8, none, .load1 (.t 7)⟩, .read [5]), (⟨some 9, none, .loadN 16 (.t 3)⟩, .read [5]), (⟨some 10, none, .callF 312 [(.t 8), (.t 9)]⟩, .alone 5)])
(.seq (.region [⟨some 11, none, .mov (.t 0)⟩, ⟨some 12, none, .loadN 16 (.t 3)⟩, ⟨some 13, none, .callF 131 [(.t 11), (.t 12)]⟩])
(.seq (.draw [(⟨some 14, none, .mov (.t 0)⟩, .pure), (⟨some 15, none, .nilCheck (.t 14)⟩, .pure), (⟨some 16, none, .fieldAddr 38 (.t 15)⟩, .pure), (⟨some 17, none, .load1 (.t 16)⟩, .read [8]), (⟨some 18, none, .fieldAddr 14 (.t 3)⟩, .pure), (⟨some 19, none, .load1 (.t 18)⟩, .read [8]), (⟨some 20, none, .lookup true (.agg [(.int .i64 0), (.int .i64 0), (.int .i64 0), (.int .i64 0), (.int .i64 0)]) (.t 17) (.t 19) false⟩, .read [8]), (⟨some 4, none, .alloc [(.int .i64 0), (.int .i64 0), (.int .i64 0), (.int .i64 0), (.int .i64 0)]⟩, .late), (⟨none, none, .store 5 (.t 4) (.t 20)⟩, .alone 8)])
(.seq (.region [⟨some 21, none, .fieldAddr 0 (.t 4)⟩, ⟨some 22, none, .load1 (.t 21)⟩, ⟨some 23, none, .bin .add (.t 22) (.c (.int .i64 1))⟩, ⟨some 24, none, .fieldAddr 0 (.t 4)⟩, ⟨none, none, .store 1 (.t 24) (.t 23)⟩])
(.seq (.draw [(⟨some 25, none, .mov (.t 0)⟩, .pure), (⟨some 26, none, .nilCheck (.t 25)⟩, .pure), (⟨some 27, none, .fieldAddr 38 (.t 26)⟩, .pure), (⟨some 28, none, .load1 (.t 27)⟩, .read [7]), (⟨some 29, none, .fieldAddr 14 (.t 3)⟩, .pure), (⟨some 30, none, .load1 (.t 29)⟩, .read [7]), (⟨some 31, none, .loadN 5 (.t 4)⟩, .read [7]), (⟨none, none, .mapUpdate true (.t 28) (.t 30) (.t 31)⟩, .alone 7)])
(.region [⟨some 32, none, .mov (.t 0)⟩, ⟨some 33, none, .nilCheck (.t 32)⟩, ⟨some 34, none, .fieldAddr 36 (.t 33)⟩, ⟨some 35, none, .load1 (.t 34)⟩, ⟨some 36, none, .bin .add (.t 35) (.c (.int .i64 1))⟩, ⟨some 37, none, .nilCheck (.t 32)⟩, ⟨some 38, none, .fieldAddr 36 (.t 37)⟩, ⟨none, none, .store 1 (.t 38) (.t 36)⟩])))))))⟩
theorem ok304 : Fok 304 d304 := ⟨_, Tryz.func304, by kernel_rfl⟩
/- stint/engine.jobOf -/
def d305 : DFunc := ⟨1, [.cell 2 16 true], (.seq (.region [⟨some 1, none, .box (.t 0)⟩, ⟨some 2, none, .alloc [(.int .i64 0), (.int .i64 0), (.int .i64 0), (.int .i64 0), (.int .i64 0), (.int .i64 0), (.int .i64 0), (.int .i64 0), (.int .i64 0), (.int .i64 0), (.int .i64 0), (.int .i64 0), (.int .i64 0), (.int .i64 0), (.str []), .nilSlice]⟩])
(.seq (.region [⟨some 3, none, .fieldAddr 0 (.t 1)⟩, ⟨some 4, none, .load1 (.t 3)⟩, ⟨some 5, none, .fieldAddr 1 (.t 1)⟩, ⟨some 6, none, .load1 (.t 5)⟩, ⟨some 7, none, .fieldAddr 2 (.t 1)⟩, ⟨some 8, none, .load1 (.t 7)⟩, ⟨some 9, none, .fieldAddr 3 (.t 1)⟩, ⟨some 10, none, .load1 (.t 9)⟩, ⟨some 11, none, .fieldAddr 4 (.t 1)⟩, ⟨some 12, none, .load1 (.t 11)⟩, ⟨some 13, none, .fieldAddr 5 (.t 1)⟩, ⟨some 14, none, .load1 (.t 13)⟩, ⟨some 15, none, .fieldAddr 6 (.t 1)⟩, ⟨some 16, none, .load1 (.t 15)⟩, ⟨some 17, none, .fieldAddr 7 (.t 1)⟩, ⟨some 18, none, .load1 (.t 17)⟩, ⟨some 19, none, .fieldAddr 8 (.t 1)⟩, ⟨some 20, none, .loadN 5 (.t 19)⟩, ⟨some 21, none, .fieldAddr 13 (.t 1)⟩, ⟨some 22, none, .load1 (.t 21)⟩, ⟨some 23, none, .fieldAddr 14 (.t 1)⟩, ⟨some 24, none, .load1 (.t 23)⟩, ⟨some 25, none, .build [(.int .i64 0), (.int .i64 0), (.int .i64 0), (.int .i64 0), (.int .i64 0), (.int .i64 0), (.int .i64 0), (.int .i64 0), (.int .i64 0), (.int .i64 0), (.int .i64 0), (.int .i64 0), (.int .i64 0), (.int .i64 0), (.str []), .nilSlice] [(0, 1, (.t 4)), (1, 1, (.t 6)), (2, 1, (.t 8)), (3, 1, (.t 10)), (4, 1, (.t 12)), (5, 1, (.t 14)), (6, 1, (.t 16)), (7, 1, (.t 18)), (8, 1, (.c (.int .i64 (-1)))), (9, 5, (.t 20)), (14, 1, (.t 22)), (15, 1, (.t 24))]⟩, ⟨none, none, .store 16 (.t 2) (.t 25)⟩])
.ret))⟩
theorem ok305 : Fok 305 d305 := ⟨_, Tryz.func305, by kernel_rfl⟩
/- stint/ledger.whole -/
def d306 : DFunc := ⟨1, [.cell 2 19 true], (.seq (.region [⟨some 1, none, .box (.t 0)⟩, ⟨some 2, none, .alloc [(.int .i64 0), (.int .i64 0), (.int .i64 0), (.int .i64 0), (.int .i64 0), (.int .i64 0), (.int .i64 0), (.int .i64 0), (.int .i64 0), (.int .i64 0), (.int .i64 0), (.int .i64 0), (.int .i64 0), (.int .i64 0), (.int .i64 0), (.int .i64 0), (.int .i64 0), (.str []), .nilSlice]⟩])
(.seq (.region [⟨some 3, none, .loadN 15 (.t 1)⟩, ⟨some 4, none, .build [(.int .i64 0), (.int .i64 0), (.int .i64 0), (.int .i64 0), (.int .i64 0), (.int .i64 0), (.int .i64 0), (.int .i64 0), (.int .i64 0), (.int .i64 0), (.int .i64 0), (.int .i64 0), (.int .i64 0), (.int .i64 0), (.int .i64 0), (.int .i64 0), (.int .i64 0), (.str []), .nilSlice] [(0, 1, (.c (.int .i64 2))), (4, 15, (.t 3))]⟩, ⟨none, none, .store 19 (.t 2) (.t 4)⟩])
.ret))⟩
theorem ok306 : Fok 306 d306 := ⟨_, Tryz.func306, by kernel_rfl⟩
/- stint/record.Size -/
def d307 : DFunc := ⟨1, [.tmp 2], (.seq (.region [⟨some 1, none, .box (.t 0)⟩, ⟨some 2, none, .mov (.c (.int .i64 0))⟩])
(.seq (.seq (.region [⟨some 4, none, .loadN 19 (.t 1)⟩, ⟨some 5, none, .callF 183 [(.t 4)]⟩, ⟨some 6, none, .bin .neq (.t 5) (.c (.int .i64 0))⟩])
(.cond (.t 6) (.seq (.region [⟨some 2, none, .mov (.c (.int .i64 0))⟩])
.ret) .skip))
(.seq (.region [⟨some 7, none, .fieldAddr 0 (.t 1)⟩, ⟨some 8, none, .load1 (.t 7)⟩, ⟨some 9, none, .callF 185 [(.t 8)]⟩, ⟨some 10, none, .lenSl (.t 9)⟩, ⟨some 11, none, .bin .mul (.c (.int .i64 8)) (.t 10)⟩, ⟨some 12, none, .bin .add (.c (.int .i64 9)) (.t 11)⟩, ⟨some 3, none, .mov (.t 12)⟩])
(.seq (.seq (.region [⟨some 13, none, .fieldAddr 0 (.t 1)⟩, ⟨some 14, none, .load1 (.t 13)⟩, ⟨some 15, none, .bin .eql (.t 14) (.c (.int .i64 2))⟩])
(.cond (.t 15) (.region [⟨some 16, none, .mov (.t 3)⟩, ⟨some 17, none, .fieldAddr 4 (.t 1)⟩, ⟨some 18, none, .fieldAddr 13 (.t 17)⟩, ⟨some 19, none, .load1 (.t 18)⟩, ⟨some 20, none, .lenStr (.t 19)⟩, ⟨some 21, none, .bin .add (.c (.int .i64 1)) (.t 20)⟩, ⟨some 22, none, .fieldAddr 4 (.t 1)⟩, ⟨some 23, none, .fieldAddr 14 (.t 22)⟩, ⟨some 24, none, .load1 (.t 23)⟩, ⟨some 25, none, .lenSl (.t 24)⟩, ⟨some 26, none, .bin .add (.t 21) (.t 25)⟩, ⟨some 27, none, .bin .add (.t 16) (.t 26)⟩, ⟨some 3, none, .mov (.t 27)⟩]) .skip))
(.seq (.region [⟨some 28, none, .mov (.t 3)⟩, ⟨some 2, none, .mov (.t 28)⟩])
.ret)))))⟩
theorem ok307 : Fok 307 d307 := ⟨_, Tryz.func307, by kernel_rfl⟩
/- (*stint/ledger.Ledger).extra -/
def d308 : DFunc := ⟨1, [.tmp 2], (.seq (.region [⟨some 2, none, .mov (.c (.int .i64 0))⟩])
(.seq (.seq (.region [⟨some 4, none, .mov (.t 0)⟩, ⟨some 5, none, .callF 89 [(.t 4)]⟩, ⟨some 3, none, .mov (.t 5)⟩])
(.seq (.draw [(⟨some 6, none, .mov (.t 3)⟩, .pure), (⟨some 7, none, .nilCheck (.t 6)⟩, .pure), (⟨some 8, none, .fieldAddr 1 (.t 7)⟩, .pure), (⟨some 9, none, .load1 (.t 8)⟩, .read []), (⟨some 10, none, .mov (.t 0)⟩, .pure), (⟨some 11, none, .nilCheck (.t 10)⟩, .pure), (⟨some 12, none, .fieldAddr 0 (.t 11)⟩, .pure), (⟨some 13, none, .fieldAddr 1 (.t 12)⟩, .pure), (⟨some 14, none, .load1 (.t 13)⟩, .read []), (⟨some 15, none, .bin .geq (.t 9) (.t 14)⟩, .pure), (⟨some 16, none, .mov (.t 15)⟩, .pure), (⟨some 17, some (16, true), .mov (.t 3)⟩, .pure), (⟨some 18, some (16, true), .nilCheck (.t 17)⟩, .pure), (⟨some 19, some (16, true), .fieldAddr 0 (.t 18)⟩, .pure), (⟨some 20, some (16, true), .load1 (.t 19)⟩, .read []), (⟨some 21, some (16, true), .bin .neq (.t 20) (.c (.int .i64 1099511627776))⟩, .pure), (⟨some 22, none, .pick (.t 16) (.t 21) (.c (.bool false))⟩, .pure)])
(.cond (.t 22) (.seq (.region [⟨some 2, none, .mov (.c (.int .i64 25))⟩])
.ret) .skip)))
(.seq (.region [⟨some 2, none, .mov (.c (.int .i64 0))⟩])
.ret)))⟩
theorem ok308 : Fok 308 d308 := ⟨_, Tryz.func308, by kernel_rfl⟩
/- (*stint/ledger.Ledger).Room -/
def d309 : DFunc := ⟨1, [.tmp 2], (.seq (.region [⟨some 2, none, .mov (.c (.int .i64 0))⟩])
(.seq (.draw [(⟨some 3, none, .mov (.t 0)⟩, .pure), (⟨some 4, none, .nilCheck (.t 3)⟩, .pure), (⟨some 5, none, .fieldAddr 0 (.t 4)⟩, .pure), (⟨some 6, none, .fieldAddr 2 (.t 5)⟩, .pure), (⟨some 7, none, .load1 (.t 6)⟩, .read []), (⟨some 8, none, .bin .sub (.t 7) (.c (.int .i64 25))⟩, .pure), (⟨some 9, none, .mov (.t 0)⟩, .pure), (⟨some 12, none, .mov (.t 0)⟩, .pure), (⟨some 10, none, .callF 313 [(.t 9)]⟩, .alone 7), (⟨some 11, none, .bin .sub (.t 8) (.t 10)⟩, .pure), (⟨some 13, none, .callF 314 [(.t 12)]⟩, .alone 10), (⟨some 14, none, .bin .sub (.t 11) (.t 13)⟩, .pure), (⟨some 2, none, .mov (.t 14)⟩, .pure)])
.ret))⟩
theorem ok309 : Fok 309 d309 := ⟨_, Tryz.func309, by kernel_rfl⟩
/- (*stint/ledger.Ledger).write -/
def d310 : DFunc := ⟨2, [], (.seq (.region [⟨some 3, none, .box (.t 1)⟩])
(.seq (.seq (.region [⟨some 4, none, .mov (.t 0)⟩, ⟨some 5, none, .callF 308 [(.t 4)]⟩, ⟨some 6, none, .bin .gtr (.t 5) (.c (.int .i64 0))⟩])
(.cond (.t 6) (.region [⟨some 7, none, .mov (.t 0)⟩, ⟨some 8, none, .mov (.t 0)⟩, ⟨some 9, none, .callF 89 [(.t 8)]⟩, ⟨some 10, none, .nilCheck (.t 9)⟩, ⟨some 11, none, .fieldAddr 0 (.t 10)⟩, ⟨some 12, none, .load1 (.t 11)⟩, ⟨some 13, none, .bin .add (.t 12) (.c (.int .i64 1))⟩, ⟨some 14, none, .callF 70 [(.t 7), (.t 13)]⟩]) .skip))
(.seq (.region [⟨some 15, none, .mov (.t 0)⟩, ⟨some 16, none, .loadN 19 (.t 3)⟩, ⟨some 17, none, .callF 114 [(.t 15), (.t 16)]⟩])
(.seq (.region [⟨some 18, none, .mov (.t 0)⟩, ⟨some 19, none, .callF 71 [(.t 18)]⟩])
(.region [⟨some 20, none, .mov (.t 0)⟩, ⟨some 21, none, .nilCheck (.t 20)⟩, ⟨some 22, none, .fieldAddr 7 (.t 21)⟩, ⟨some 23, none, .load1 (.t 22)⟩, ⟨some 24, none, .bin .add (.t 23) (.c (.int .i64 1))⟩, ⟨some 25, none, .nilCheck (.t 20)⟩, ⟨some 26, none, .fieldAddr 7 (.t 25)⟩, ⟨none, none, .store 1 (.t 26) (.t 24)⟩])))))⟩
theorem ok310 : Fok 310 d310 := ⟨_, Tryz.func310, by kernel_rfl⟩
/- (*stint/ledger.Ledger).behind -/
def d311 : DFunc := ⟨1, [.tmp 2], (.seq (.region [⟨some 2, none, .mov (.c .nilSlice)⟩])
(.seq (.region [⟨some 5, none, .mov (.t 0)⟩, ⟨some 6, none, .callF 315 [(.t 5)]⟩])
(.seq (.seq (.region [⟨some 7, none, .mov (.t 0)⟩, ⟨some 8, none, .nilCheck (.t 7)⟩, ⟨some 9, none, .fieldAddr 5 (.t 8)⟩, ⟨some 10, none, .load1 (.t 9)⟩, ⟨some 11, none, .lenSl (.t 10)⟩, ⟨some 12, none, .bin .gtr (.t 11) (.c (.int .i64 1))⟩, ⟨some 13, none, .mov (.t 12)⟩, ⟨some 14, some (13, true), .mov (.t 0)⟩, ⟨some 15, some (13, true), .callF 313 [(.t 14)]⟩, ⟨some 16, some (13, true), .mov (.t 0)⟩, ⟨some 17, some (13, true), .callF 316 [(.t 16)]⟩, ⟨some 18, some (13, true), .bin .mul (.c (.int .i64 2)) (.t 17)⟩, ⟨some 19, some (13, true), .bin .gtr (.t 15) (.t 18)⟩, ⟨some 20, none, .pick (.t 13) (.t 19) (.c (.bool false))⟩])
(.cond (.t 20) (.seq (.draw [(⟨some 22, none, .mov (.t 0)⟩, .pure), (⟨some 23, none, .nilCheck (.t 22)⟩, .pure), (⟨some 24, none, .fieldAddr 3 (.t 23)⟩, .pure), (⟨some 25, none, .load1 (.t 24)⟩, .read [11]), (⟨some 26, none, .mov (.t 0)⟩, .pure), (⟨some 27, none, .callF 317 [(.t 26)]⟩, .alone 5), (⟨some 28, none, .lookup false (.agg [(.int .i64 0), (.int .i64 0), (.int .i64 0), (.int .i64 0), (.int .i64 0), (.int .i64 0), (.int .i64 0), (.int .i64 0), (.int .i64 0), (.int .i64 0), (.int .i64 0), (.int .i64 0), (.int .i64 0), (.str []), .nilSlice, (.int .i64 0), (.int .i64 0)]) (.t 25) (.t 27) true⟩, .read [11]), (⟨some 21, none, .mov (.t 28)⟩, .pure), (⟨some 29, none, .extract (.t 21) 0⟩, .pure), (⟨some 30, none, .extract (.t 21) 1⟩, .pure), (⟨some 3, none, .alloc [(.int .i64 0), (.int .i64 0), (.int .i64 0), (.int .i64 0), (.int .i64 0), (.int .i64 0), (.int .i64 0), (.int .i64 0), (.int .i64 0), (.int .i64 0), (.int .i64 0), (.int .i64 0), (.int .i64 0), (.str []), .nilSlice, (.int .i64 0), (.int .i64 0)]⟩, .late), (⟨none, none, .store 17 (.t 3) (.t 29)⟩, .alone 11), (⟨some 4, none, .mov (.t 30)⟩, .pure)])
(.seq (.draw [(⟨some 31, none, .mov (.t 4)⟩, .pure), (⟨some 32, none, .mov (.t 31)⟩, .pure), (⟨some 33, some (32, true), .fieldAddr 16 (.t 3)⟩, .pure), (⟨some 34, some (32, true), .load1 (.t 33)⟩, .read []), (⟨some 35, some (32, true), .mov (.t 0)⟩, .pure), (⟨some 38, some (32, true), .mov (.t 0)⟩, .pure), (⟨some 36, some (32, true), .callF 308 [(.t 35)]⟩, .alone 5), (⟨some 37, some (32, true), .bin .add (.t 34) (.t 36)⟩, .pure), (⟨some 39, some (32, true), .callF 309 [(.t 38)]⟩, .alone 8), (⟨some 40, some (32, true), .bin .leq (.t 37) (.t 39)⟩, .pure), (⟨some 41, none, .pick (.t 32) (.t 40) (.c (.bool false))⟩, .pure)])
(.cond (.t 41) (.seq (.region [⟨some 42, none, .mov (.t 0)⟩, ⟨some 43, none, .fieldAddr 0 (.t 3)⟩, ⟨some 44, none, .loadN 15 (.t 43)⟩, ⟨some 45, none, .callF 306 [(.t 44)]⟩, ⟨some 46, none, .callF 310 [(.t 42), (.t 45)]⟩])
(.seq (.region [⟨some 47, none, .mov (.t 0)⟩, ⟨some 48, none, .callF 89 [(.t 47)]⟩, ⟨some 49, none, .nilCheck (.t 48)⟩, ⟨some 50, none, .fieldAddr 0 (.t 49)⟩, ⟨some 51, none, .load1 (.t 50)⟩, ⟨some 52, none, .fieldAddr 15 (.t 3)⟩, ⟨none, none, .store 1 (.t 52) (.t 51)⟩])
(.seq (.draw [(⟨some 53, none, .mov (.t 0)⟩, .pure), (⟨some 54, none, .nilCheck (.t 53)⟩, .pure), (⟨some 55, none, .fieldAddr 3 (.t 54)⟩, .pure), (⟨some 56, none, .load1 (.t 55)⟩, .read [8]), (⟨some 57, none, .fieldAddr 0 (.t 3)⟩, .pure), (⟨some 58, none, .fieldAddr 0 (.t 57)⟩, .pure), (⟨some 59, none, .load1 (.t 58)⟩, .read [8]), (⟨some 60, none, .loadN 17 (.t 3)⟩, .read [8]), (⟨none, none, .mapUpdate false (.t 56) (.t 59) (.t 60)⟩, .alone 8)])
(.seq (.region [⟨some 61, none, .mov (.t 0)⟩, ⟨some 62, none, .nilCheck (.t 61)⟩, ⟨some 63, none, .fieldAddr 6 (.t 62)⟩, ⟨some 64, none, .load1 (.t 63)⟩, ⟨some 65, none, .bin .add (.t 64) (.c (.int .i64 1))⟩, ⟨some 66, none, .nilCheck (.t 61)⟩, ⟨some 67, none, .fieldAddr 6 (.t 66)⟩, ⟨none, none, .store 1 (.t 67) (.t 65)⟩])
(.region [⟨some 68, none, .mov (.t 0)⟩, ⟨some 69, none, .callF 315 [(.t 68)]⟩]))))) .skip))) .skip))
(.seq (.region [⟨some 70, none, .mov (.t 0)⟩, ⟨some 71, none, .callF 287 [(.t 70)]⟩])
(.seq (.region [⟨some 72, none, .mov (.t 0)⟩, ⟨some 73, none, .callF 72 [(.t 72)]⟩, ⟨some 2, none, .mov (.t 73)⟩])
.ret)))))⟩
theorem ok311 : Fok 311 d311 := ⟨_, Tryz.func311, by kernel_rfl⟩
/- (*stint/yard.Yard).Add -/
def d312 : DFunc := ⟨2, [.tmp 4], (.seq (.region [⟨some 3, none, .box (.t 1)⟩, ⟨some 4, none, .mov (.c (.int .i64 0))⟩])
(.seq (.seq (.draw [(⟨some 9, none, .mov (.t 0)⟩, .pure), (⟨some 10, none, .nilCheck (.t 9)⟩, .pure), (⟨some 11, none, .fieldAddr 0 (.t 10)⟩, .pure), (⟨some 12, none, .load1 (.t 11)⟩, .read [11]), (⟨some 13, none, .fieldAddr 0 (.t 3)⟩, .pure), (⟨some 14, none, .load1 (.t 13)⟩, .read [11]), (⟨some 15, none, .lookup false (.agg [(.int .i64 0), (.int .i64 0), (.int .i64 0), (.int .i64 0), (.int .i64 0), (.int .i64 0), (.int .i64 0), (.int .i64 0), (.int .i64 0), (.int .i64 0), (.int .i64 0), (.int .i64 0), (.int .i64 0), (.int .i64 0), (.str []), .nilSlice, (.int .i64 0), (.int .i64 0), (.int .i64 0)]) (.t 12) (.t 14) true⟩, .read [11]), (⟨some 8, none, .mov (.t 15)⟩, .pure), (⟨some 16, none, .extract (.t 8) 0⟩, .pure), (⟨some 17, none, .extract (.t 8) 1⟩, .pure), (⟨some 5, none, .alloc [(.int .i64 0), (.int .i64 0), (.int .i64 0), (.int .i64 0), (.int .i64 0), (.int .i64 0), (.int .i64 0), (.int .i64 0), (.int .i64 0), (.int .i64 0), (.int .i64 0), (.int .i64 0), (.int .i64 0), (.int .i64 0), (.str []), .nilSlice, (.int .i64 0), (.int .i64 0), (.int .i64 0)]⟩, .late), (⟨none, none, .store 19 (.t 5) (.t 16)⟩, .alone 11), (⟨some 6, none, .mov (.t 17)⟩, .pure)])
(.seq (.region [⟨some 18, none, .mov (.t 6)⟩, ⟨some 19, none, .mov (.t 18)⟩, ⟨some 20, some (19, false), .fieldAddr 0 (.t 3)⟩, ⟨some 21, some (19, false), .load1 (.t 20)⟩, ⟨some 22, some (19, false), .bin .lss (.t 21) (.c (.int .i64 1))⟩, ⟨some 23, none, .pick (.t 19) (.c (.bool true)) (.t 22)⟩, ⟨some 24, none, .mov (.t 23)⟩, ⟨some 25, some (24, false), .fieldAddr 0 (.t 3)⟩, ⟨some 26, some (24, false), .load1 (.t 25)⟩, ⟨some 27, some (24, false), .bin .gtr (.t 26) (.c (.int .i64 1099511627776))⟩, ⟨some 28, none, .pick (.t 24) (.c (.bool true)) (.t 27)⟩])
(.cond (.t 28) (.seq (.region [⟨some 4, none, .mov (.c (.int .i64 150))⟩])
.ret) .skip)))
(.seq (.seq (.region [⟨some 29, none, .loadN 16 (.t 3)⟩, ⟨some 30, none, .callF 164 [(.t 29)]⟩, ⟨some 7, none, .mov (.t 30)⟩])
(.seq (.region [⟨some 31, none, .mov (.t 7)⟩, ⟨some 32, none, .bin .neq (.t 31) (.c (.int .i64 0))⟩])
(.cond (.t 32) (.seq (.region [⟨some 33, none, .mov (.t 7)⟩, ⟨some 4, none, .mov (.t 33)⟩])
.ret) .skip)))
(.seq (.region [⟨some 34, none, .fieldAddr 15 (.t 3)⟩, ⟨some 35, none, .load1 (.t 34)⟩, ⟨some 36, none, .callF 163 [(.t 35)]⟩, ⟨some 37, none, .fieldAddr 15 (.t 3)⟩, ⟨none, none, .store 1 (.t 37) (.t 36)⟩])
(.seq (.region [⟨some 38, none, .mov (.t 0)⟩, ⟨some 39, none, .loadN 16 (.t 3)⟩, ⟨some 40, none, .callF 167 [(.t 38), (.t 39)]⟩])
(.seq (.region [⟨some 4, none, .mov (.c (.int .i64 0))⟩])
.ret))))))⟩
theorem ok312 : Fok 312 d312 := ⟨_, Tryz.func312, by kernel_rfl⟩
/- (*stint/ledger.Ledger).Used -/
def d313 : DFunc := ⟨1, [.tmp 2], (.seq (.region [⟨some 2, none, .mov (.c (.int .i64 0))⟩])
(.seq (.region [⟨some 3, none, .mov (.c (.int .i64 0))⟩])
(.seq (.seq (.region [⟨some 6, none, .mov (.t 0)⟩, ⟨some 7, none, .nilCheck (.t 6)⟩, ⟨some 8, none, .fieldAddr 5 (.t 7)⟩, ⟨some 9, none, .load1 (.t 8)⟩, ⟨some 10, none, .lenSl (.t 9)⟩, ⟨some 11, none, .mov (.c (.int .i64 0))⟩])
(.block 0 (.loop (.seq (.region [⟨some 12, none, .bin .lss (.t 11) (.t 10)⟩])
(.seq (.cond (.t 12) .skip (.exit 0))
(.seq (.block 1 (.seq (.region [⟨some 13, none, .indexAddrS 2 (.t 9) (.t 11)⟩, ⟨some 14, none, .loadN 2 (.t 13)⟩, ⟨some 5, none, .alloc [(.int .i64 0), (.int .i64 0)]⟩, ⟨none, none, .store 2 (.t 5) (.t 14)⟩])
(.region [⟨some 15, none, .mov (.t 3)⟩, ⟨some 16, none, .fieldAddr 1 (.t 5)⟩, ⟨some 17, none, .load1 (.t 16)⟩, ⟨some 18, none, .bin .add (.t 15) (.t 17)⟩, ⟨some 3, none, .mov (.t 18)⟩])))
(.region [⟨some 19, none, .bin .add (.t 11) (.c (.int .i64 1))⟩, ⟨some 11, none, .mov (.t 19)⟩])))))))
(.seq (.region [⟨some 20, none, .mov (.t 3)⟩, ⟨some 2, none, .mov (.t 20)⟩])
.ret))))⟩
theorem ok313 : Fok 313 d313 := ⟨_, Tryz.func313, by kernel_rfl⟩
/- (*stint/ledger.Ledger).Held -/
def d314 : DFunc := ⟨1, [.tmp 2], (.seq (.region [⟨some 2, none, .mov (.c (.int .i64 0))⟩])
(.seq (.region [⟨some 3, none, .mov (.c (.int .i64 0))⟩])
(.seq (.seq (.region [⟨some 6, none, .mov (.t 0)⟩, ⟨some 7, none, .nilCheck (.t 6)⟩, ⟨some 8, none, .fieldAddr 3 (.t 7)⟩, ⟨some 9, none, .load1 (.t 8)⟩, ⟨some 10, none, .rangeMap (.t 9)⟩])
(.block 0 (.loop (.seq (.region [⟨some 11, none, .nextMap (.t 10)⟩, ⟨some 12, none, .extract (.t 11) 0⟩])
(.seq (.cond (.t 12) .skip (.exit 0))
(.block 1 (.seq (.region [⟨some 13, none, .entry (.t 10)⟩, ⟨some 14, none, .extract (.t 13) 1⟩, ⟨some 5, none, .alloc [(.int .i64 0), (.int .i64 0), (.int .i64 0), (.int .i64 0), (.int .i64 0), (.int .i64 0), (.int .i64 0), (.int .i64 0), (.int .i64 0), (.int .i64 0), (.int .i64 0), (.int .i64 0), (.int .i64 0), (.str []), .nilSlice, (.int .i64 0), (.int .i64 0)]⟩, ⟨none, none, .store 17 (.t 5) (.t 14)⟩])
(.region [⟨some 15, none, .mov (.t 3)⟩, ⟨some 16, none, .loadN 17 (.t 5)⟩, ⟨some 17, none, .callF 318 [(.t 16)]⟩, ⟨some 18, none, .bin .add (.t 15) (.t 17)⟩, ⟨some 3, none, .mov (.t 18)⟩]))))))))
(.seq (.region [⟨some 19, none, .mov (.t 3)⟩, ⟨some 2, none, .mov (.t 19)⟩])
.ret))))⟩
theorem ok314 : Fok 314 d314 := ⟨_, Tryz.func314, by kernel_rfl⟩
/- (*stint/ledger.Ledger).letGo -/
def d315 : DFunc := ⟨1, [], (.block 0 (.loop (.seq (.seq (.region [⟨some 2, none, .mov (.t 0)⟩, ⟨some 3, none, .nilCheck (.t 2)⟩, ⟨some 4, none, .fieldAddr 5 (.t 3)⟩, ⟨some 5, none, .load1 (.t 4)⟩, ⟨some 6, none, .lenSl (.t 5)⟩, ⟨some 7, none, .bin .gtr (.t 6) (.c (.int .i64 1))⟩, ⟨some 8, none, .mov (.t 7)⟩, ⟨some 9, some (8, true), .mov (.t 0)⟩, ⟨some 10, some (8, true), .mov (.t 0)⟩, ⟨some 11, some (8, true), .nilCheck (.t 10)⟩, ⟨some 12, some (8, true), .fieldAddr 5 (.t 11)⟩, ⟨some 13, some (8, true), .load1 (.t 12)⟩, ⟨some 14, some (8, true), .indexAddrS 2 (.t 13) (.c (.int .i64 0))⟩, ⟨some 15, some (8, true), .fieldAddr 0 (.t 14)⟩, ⟨some 16, some (8, true), .load1 (.t 15)⟩, ⟨some 17, some (8, true), .callF 319 [(.t 9), (.t 16)]⟩, ⟨some 18, some (8, true), .un .not (.t 17)⟩, ⟨some 19, none, .pick (.t 8) (.t 18) (.c (.bool false))⟩])
(.cond (.t 19) .skip (.exit 0)))
(.block 1 (.seq (.draw [(⟨some 20, none, .mov (.t 0)⟩, .pure), (⟨some 21, none, .mov (.t 0)⟩, .pure), (⟨some 22, none, .nilCheck (.t 21)⟩, .pure), (⟨some 23, none, .fieldAddr 8 (.t 22)⟩, .pure), (⟨some 24, none, .load1 (.t 23)⟩, .read [17, 14]), (⟨some 25, none, .mov (.t 0)⟩, .pure), (⟨some 26, none, .nilCheck (.t 25)⟩, .pure), (⟨some 27, none, .fieldAddr 5 (.t 26)⟩, .pure), (⟨some 28, none, .load1 (.t 27)⟩, .read [17, 14, 13, 12]), (⟨some 29, none, .indexAddrS 2 (.t 28) (.c (.int .i64 0))⟩, .pure), (⟨some 30, none, .fieldAddr 0 (.t 29)⟩, .pure), (⟨some 31, none, .load1 (.t 30)⟩, .read [17, 14, 13, 12]), (⟨some 32, none, .build [(.int .i64 0), (.int .i64 0), .nilSlice, (.int .i64 0)] [(0, 1, (.c (.int .i64 5))), (1, 1, (.t 31))]⟩, .alone 12), (⟨some 33, none, .buildSlice 1 [(.int .i64 0), (.int .i64 0), .nilSlice, (.int .i64 0)] [(0, 4, (.t 32))]⟩, .alone 13), (⟨some 34, none, .append 4 48 [] (.t 24) (.t 33)⟩, .alone 14), (⟨some 35, none, .nilCheck (.t 20)⟩, .pure), (⟨some 36, none, .fieldAddr 8 (.t 35)⟩, .pure), (⟨none, none, .store 1 (.t 36) (.t 34)⟩, .alone 17)])
(.region [⟨some 37, none, .mov (.t 0)⟩, ⟨some 38, none, .mov (.t 0)⟩, ⟨some 39, none, .nilCheck (.t 38)⟩, ⟨some 40, none, .fieldAddr 5 (.t 39)⟩, ⟨some 41, none, .load1 (.t 40)⟩, ⟨some 42, none, .sliceSl 2 (.t 41) (some (.c (.int .i64 1))) none none⟩, ⟨some 43, none, .callF 320 [(.t 42)]⟩, ⟨some 44, none, .nilCheck (.t 37)⟩, ⟨some 45, none, .fieldAddr 5 (.t 44)⟩, ⟨none, none, .store 1 (.t 45) (.t 43)⟩]))))))⟩
theorem ok315 : Fok 315 d315 := ⟨_, Tryz.func315, by kernel_rfl⟩
end Go.Proofs.YtfdplefijefeiaaGreatDoor
