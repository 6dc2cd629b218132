/- Functions of the program as own texts. -/
import Derived.Test.YtfdplefijefeiaaGreatDoorK
namespace Go.Proofs.YtfdplefijefeiaaGreatDoor
open Go.Dx
set_option maxRecDepth 100000
/- stint/stintlaw18.HouseNames -/
def d3 : DFunc := ⟨0, [.tmp 0], (.seq (.region [⟨some 0, none, .mov (.c (.bool false))⟩])
(.seq (.region [⟨some 1, none, .callF 6 []⟩, ⟨some 2, none, .mov (.t 1)⟩, ⟨some 3, none, .pick (.t 2) (.c (.bool true)) (.c (.bool false))⟩, ⟨some 4, none, .mov (.t 3)⟩, ⟨some 5, none, .pick (.t 4) (.c (.bool true)) (.c (.bool false))⟩, ⟨some 6, none, .mov (.t 5)⟩, ⟨some 7, none, .pick (.t 6) (.c (.bool true)) (.c (.bool false))⟩, ⟨some 8, none, .mov (.t 7)⟩, ⟨some 9, none, .pick (.t 8) (.c (.bool true)) (.c (.bool false))⟩, ⟨some 10, none, .mov (.t 9)⟩, ⟨some 11, none, .pick (.t 10) (.c (.bool true)) (.c (.bool false))⟩, ⟨some 12, none, .mov (.t 11)⟩, ⟨some 13, none, .pick (.t 12) (.c (.bool true)) (.c (.bool false))⟩, ⟨some 14, none, .mov (.t 13)⟩, ⟨some 15, none, .pick (.t 14) (.c (.bool true)) (.c (.bool false))⟩, ⟨some 16, none, .mov (.t 15)⟩, ⟨some 17, none, .pick (.t 16) (.c (.bool true)) (.c (.bool false))⟩, ⟨some 18, none, .mov (.t 17)⟩, ⟨some 19, none, .pick (.t 18) (.c (.bool true)) (.c (.bool false))⟩, ⟨some 20, none, .mov (.t 19)⟩, ⟨some 21, none, .pick (.t 20) (.c (.bool true)) (.c (.bool false))⟩, ⟨some 22, none, .mov (.t 21)⟩, ⟨some 23, none, .pick (.t 22) (.c (.bool true)) (.c (.bool false))⟩, ⟨some 24, none, .mov (.t 23)⟩, ⟨some 25, none, .pick (.t 24) (.c (.bool true)) (.c (.bool false))⟩, ⟨some 0, none, .mov (.t 25)⟩])
.ret))⟩
theorem ok3 : Fok 3 d3 := ⟨_, Tryz.func3, by kernel_rfl⟩
/- stint/stintlaw18.shown -/
def d6 : DFunc := ⟨0, [.tmp 0], (.seq (.region [⟨some 0, none, .mov (.c (.bool false))⟩])
(.seq (.region [⟨some 12, none, .callF 18 []⟩, ⟨some 13, none, .callF 17 [(.t 12), (.c (.int .i64 0))]⟩, ⟨some 11, none, .mov (.t 13)⟩, ⟨some 14, none, .extract (.t 11) 0⟩, ⟨some 15, none, .extract (.t 11) 1⟩, ⟨some 16, none, .extract (.t 11) 2⟩, ⟨some 1, none, .mov (.t 14)⟩, ⟨some 2, none, .mov (.t 15)⟩, ⟨some 3, none, .mov (.t 16)⟩])
(.seq (.seq (.region [⟨some 17, none, .mov (.t 1)⟩, ⟨some 18, none, .eqv false .ptr (.t 17) (.c .nilPtr)⟩, ⟨some 19, none, .mov (.t 18)⟩, ⟨some 20, some (19, false), .mov (.t 3)⟩, ⟨some 21, some (19, false), .bin .neq (.t 20) (.c (.int .i64 0))⟩, ⟨some 22, none, .pick (.t 19) (.c (.bool true)) (.t 21)⟩, ⟨some 23, none, .mov (.t 22)⟩, ⟨some 24, some (23, false), .mov (.t 2)⟩, ⟨some 25, some (23, false), .lenSl (.t 24)⟩, ⟨some 26, some (23, false), .bin .neq (.t 25) (.c (.int .i64 3))⟩, ⟨some 27, none, .pick (.t 23) (.c (.bool true)) (.t 26)⟩])
(.cond (.t 27) (.seq (.region [⟨some 0, none, .mov (.c (.bool false))⟩])
.ret) .skip))
(.seq (.region [⟨some 28, none, .mov (.t 1)⟩, ⟨some 29, none, .callF 19 [(.t 28), (.c (.int .i64 1))]⟩, ⟨some 4, none, .mov (.t 29)⟩])
(.seq (.region [⟨some 30, none, .mov (.t 1)⟩, ⟨some 31, none, .callF 19 [(.t 30), (.c (.int .i64 1))]⟩, ⟨some 5, none, .mov (.t 31)⟩])
(.seq (.region [⟨some 33, none, .mov (.t 1)⟩, ⟨some 34, none, .buildSlice 14 [(.int .u8 0), (.int .u8 0), (.int .u8 0), (.int .u8 0), (.int .u8 0), (.int .u8 0), (.int .u8 0), (.int .u8 0), (.int .u8 0), (.int .u8 0), (.int .u8 0), (.int .u8 0), (.int .u8 0), (.int .u8 0)] [(0, 1, (.c (.int .u8 112))), (1, 1, (.c (.int .u8 117))), (2, 1, (.c (.int .u8 116))), (3, 1, (.c (.int .u8 32))), (4, 1, (.c (.int .u8 48))), (5, 1, (.c (.int .u8 32))), (6, 1, (.c (.int .u8 48))), (7, 1, (.c (.int .u8 32))), (8, 1, (.c (.int .u8 57))), (9, 1, (.c (.int .u8 32))), (10, 1, (.c (.int .u8 50))), (11, 1, (.c (.int .u8 13))), (12, 1, (.c (.int .u8 10))), (13, 1, (.c (.int .u8 97)))]⟩, ⟨some 35, none, .strish (.t 34)⟩, ⟨some 36, none, .callF 20 [(.t 33), (.c (.int .i64 1)), (.t 35)]⟩, ⟨some 32, none, .mov (.t 36)⟩, ⟨some 37, none, .extract (.t 32) 0⟩, ⟨some 38, none, .extract (.t 32) 1⟩, ⟨some 6, none, .mov (.t 37)⟩, ⟨some 7, none, .mov (.t 38)⟩])
(.seq (.region [⟨some 39, none, .mov (.t 1)⟩, ⟨some 40, none, .callF 21 [(.t 39), (.c (.int .i64 1))]⟩, ⟨some 8, none, .mov (.t 40)⟩])
(.seq (.region [⟨some 42, none, .mov (.t 1)⟩, ⟨some 43, none, .buildSlice 8 [(.int .u8 0), (.int .u8 0), (.int .u8 0), (.int .u8 0), (.int .u8 0), (.int .u8 0), (.int .u8 0), (.int .u8 0)] [(0, 1, (.c (.int .u8 98))), (1, 1, (.c (.int .u8 13))), (2, 1, (.c (.int .u8 10))), (3, 1, (.c (.int .u8 80))), (4, 1, (.c (.int .u8 85))), (5, 1, (.c (.int .u8 84))), (6, 1, (.c (.int .u8 13))), (7, 1, (.c (.int .u8 10)))]⟩, ⟨some 44, none, .strish (.t 43)⟩, ⟨some 45, none, .callF 20 [(.t 42), (.c (.int .i64 1)), (.t 44)]⟩, ⟨some 41, none, .mov (.t 45)⟩, ⟨some 46, none, .extract (.t 41) 0⟩, ⟨some 47, none, .extract (.t 41) 1⟩, ⟨some 9, none, .mov (.t 46)⟩, ⟨some 10, none, .mov (.t 47)⟩])
(.seq (.region [⟨some 48, none, .mov (.t 4)⟩, ⟨some 49, none, .bin .eql (.t 48) (.c (.int .i64 0))⟩, ⟨some 50, none, .mov (.t 49)⟩, ⟨some 51, some (50, true), .mov (.t 5)⟩, ⟨some 52, some (50, true), .bin .eql (.t 51) (.c (.int .i64 180))⟩, ⟨some 53, none, .pick (.t 50) (.t 52) (.c (.bool false))⟩, ⟨some 54, none, .mov (.t 53)⟩, ⟨some 55, some (54, true), .mov (.t 7)⟩, ⟨some 56, some (54, true), .bin .eql (.t 55) (.c (.int .i64 0))⟩, ⟨some 57, none, .pick (.t 54) (.t 56) (.c (.bool false))⟩, ⟨some 58, none, .mov (.t 57)⟩, ⟨some 59, some (58, true), .mov (.t 10)⟩, ⟨some 60, some (58, true), .bin .eql (.t 59) (.c (.int .i64 0))⟩, ⟨some 61, none, .pick (.t 58) (.t 60) (.c (.bool false))⟩, ⟨some 62, none, .mov (.t 61)⟩, ⟨some 63, some (62, true), .mov (.t 6)⟩, ⟨some 64, some (62, true), .lenSl (.t 63)⟩, ⟨some 65, some (62, true), .bin .eql (.t 64) (.c (.int .i64 0))⟩, ⟨some 66, none, .pick (.t 62) (.t 65) (.c (.bool false))⟩, ⟨some 67, none, .mov (.t 66)⟩, ⟨some 68, some (67, true), .mov (.t 8)⟩, ⟨some 69, some (67, true), .bin .eql (.t 68) (.c (.int .i64 14))⟩, ⟨some 70, none, .pick (.t 67) (.t 69) (.c (.bool false))⟩, ⟨some 71, none, .mov (.t 70)⟩, ⟨some 72, some (71, true), .mov (.t 9)⟩, ⟨some 73, some (71, true), .lenSl (.t 72)⟩, ⟨some 74, some (71, true), .bin .eql (.t 73) (.c (.int .i64 6))⟩, ⟨some 75, none, .pick (.t 71) (.t 74) (.c (.bool false))⟩, ⟨some 76, none, .mov (.t 75)⟩, ⟨some 77, some (76, true), .mov (.t 9)⟩, ⟨some 78, some (76, true), .indexAddrS 12 (.t 77) (.c (.int .i64 0))⟩, ⟨some 79, some (76, true), .fieldAddr 0 (.t 78)⟩, ⟨some 80, some (76, true), .load1 (.t 79)⟩, ⟨some 81, some (76, true), .bin .eql (.t 80) (.c (.int .i64 4))⟩, ⟨some 82, none, .pick (.t 76) (.t 81) (.c (.bool false))⟩, ⟨some 83, none, .mov (.t 82)⟩, ⟨some 84, some (83, true), .mov (.t 9)⟩, ⟨some 85, some (83, true), .indexAddrS 12 (.t 84) (.c (.int .i64 3))⟩, ⟨some 86, some (83, true), .fieldAddr 11 (.t 85)⟩, ⟨some 87, some (83, true), .load1 (.t 86)⟩, ⟨some 88, some (83, true), .bytesStr (.t 87)⟩, ⟨some 89, some (83, true), .bin .eql (.t 88) (.c (.str [73, 78, 83, 69, 82, 84, 69, 68, 32, 49, 13, 10]))⟩, ⟨some 90, none, .pick (.t 83) (.t 89) (.c (.bool false))⟩, ⟨some 91, none, .mov (.t 90)⟩, ⟨some 92, some (91, true), .mov (.t 9)⟩, ⟨some 93, some (91, true), .indexAddrS 12 (.t 92) (.c (.int .i64 5))⟩, ⟨some 94, some (91, true), .fieldAddr 11 (.t 93)⟩, ⟨some 95, some (91, true), .load1 (.t 94)⟩, ⟨some 96, some (91, true), .bytesStr (.t 95)⟩, ⟨some 97, some (91, true), .bin .eql (.t 96) (.c (.str [85, 78, 75, 78, 79, 87, 78, 95, 67, 79, 77, 77, 65, 78, 68, 13, 10]))⟩, ⟨some 98, none, .pick (.t 91) (.t 97) (.c (.bool false))⟩, ⟨some 0, none, .mov (.t 98)⟩])
.ret)))))))))⟩
theorem ok6 : Fok 6 d6 := ⟨_, Tryz.func6, by kernel_rfl⟩
/- stint/house.New -/
def d17 : DFunc := ⟨2, [.tmp 4, .tmp 5, .tmp 6], (.seq (.region [⟨some 2, none, .box (.t 0)⟩, ⟨some 4, none, .mov (.c .nilPtr)⟩, ⟨some 5, none, .mov (.c .nilSlice)⟩, ⟨some 6, none, .mov (.c (.int .i64 0))⟩])
(.seq (.region [⟨some 11, none, .loadN 3 (.t 2)⟩, ⟨some 12, none, .mov (.t 1)⟩, ⟨some 13, none, .callF 32 [(.t 11), (.t 12)]⟩, ⟨some 10, none, .mov (.t 13)⟩, ⟨some 14, none, .extract (.t 10) 0⟩, ⟨some 15, none, .extract (.t 10) 1⟩, ⟨some 16, none, .extract (.t 10) 2⟩, ⟨some 7, none, .mov (.t 14)⟩, ⟨some 8, none, .mov (.t 15)⟩, ⟨some 9, none, .mov (.t 16)⟩])
(.seq (.region [⟨some 17, none, .loadN 3 (.t 2)⟩, ⟨some 18, none, .mov (.t 7)⟩, ⟨some 19, none, .mov (.t 8)⟩, ⟨some 20, none, .mov (.t 9)⟩, ⟨some 21, none, .callF 33 [(.t 17), (.t 18), (.t 19), (.t 20)]⟩, ⟨some 22, none, .extract (.t 21) 0⟩, ⟨some 23, none, .extract (.t 21) 1⟩, ⟨some 24, none, .extract (.t 21) 2⟩, ⟨some 4, none, .mov (.t 22)⟩, ⟨some 5, none, .mov (.t 23)⟩, ⟨some 6, none, .mov (.t 24)⟩])
.ret)))⟩
theorem ok17 : Fok 17 d17 := ⟨_, Tryz.func17, by kernel_rfl⟩
/- stint/stintlaw18.plain -/
def d18 : DFunc := ⟨0, [.cell 0 3 true], (.seq (.region [⟨some 0, none, .alloc [(.int .i64 0), (.int .i64 0), (.int .i64 0)]⟩])
(.seq (.region [⟨some 1, none, .build [(.int .i64 0), (.int .i64 0), (.int .i64 0)] [(0, 1, (.c (.int .i64 5))), (1, 1, (.c (.int .i64 4096))), (2, 1, (.c (.int .i64 65536)))]⟩, ⟨none, none, .store 3 (.t 0) (.t 1)⟩])
.ret))⟩
theorem ok18 : Fok 18 d18 := ⟨_, Tryz.func18, by kernel_rfl⟩
/- (*stint/house.House).Join -/
def d19 : DFunc := ⟨2, [.tmp 4], (.seq (.region [⟨some 4, none, .mov (.c (.int .i64 0))⟩])
(.seq (.seq (.region [⟨some 7, none, .mov (.t 0)⟩, ⟨some 8, none, .nilCheck (.t 7)⟩, ⟨some 9, none, .fieldAddr 3 (.t 8)⟩, ⟨some 10, none, .load1 (.t 9)⟩, ⟨some 11, none, .mov (.t 1)⟩, ⟨some 12, none, .callF 34 [(.t 10), (.t 11)]⟩, ⟨some 13, none, .bin .neq (.t 12) (.c (.int .i64 0))⟩])
(.cond (.t 13) (.seq (.region [⟨some 4, none, .mov (.c (.int .i64 180))⟩])
.ret) .skip))
(.seq (.region [⟨some 15, none, .mov (.t 0)⟩, ⟨some 16, none, .nilCheck (.t 15)⟩, ⟨some 17, none, .fieldAddr 0 (.t 16)⟩, ⟨some 18, none, .fieldAddr 0 (.t 17)⟩, ⟨some 19, none, .load1 (.t 18)⟩, ⟨some 20, none, .callF 35 [(.t 19)]⟩, ⟨some 14, none, .mov (.t 20)⟩, ⟨some 21, none, .extract (.t 14) 0⟩, ⟨some 22, none, .extract (.t 14) 1⟩, ⟨some 5, none, .mov (.t 21)⟩, ⟨some 6, none, .mov (.t 22)⟩])
(.seq (.region [⟨some 23, none, .mov (.t 0)⟩, ⟨some 24, none, .nilCheck (.t 23)⟩, ⟨some 25, none, .fieldAddr 4 (.t 24)⟩, ⟨some 26, none, .load1 (.t 25)⟩, ⟨some 27, none, .mov (.t 1)⟩, ⟨some 28, none, .mov (.t 5)⟩, ⟨some 29, none, .build [.nilPtr, .nilSlice, (.int .i64 0), (.int .i64 0), (.int .i64 0), (.int .i64 0), (.int .i64 0), (.int .i64 0), (.int .i64 0), (.int .i64 0), (.int .i64 0), (.int .i64 0), (.str []), .nilSlice, .nilPtr] [(0, 1, (.t 28))]⟩, ⟨some 30, none, .box (.t 29)⟩, ⟨none, none, .mapUpdate false (.t 26) (.t 27) (.t 30)⟩])
(.seq (.region [⟨some 4, none, .mov (.c (.int .i64 0))⟩])
.ret)))))⟩
theorem ok19 : Fok 19 d19 := ⟨_, Tryz.func19, by kernel_rfl⟩
/- (*stint/house.House).Feed -/
def d20 : DFunc := ⟨3, [.tmp 6, .tmp 7], (.seq (.region [⟨some 6, none, .mov (.c .nilSlice)⟩, ⟨some 7, none, .mov (.c (.int .i64 0))⟩])
(.seq (.region [⟨some 11, none, .mov (.t 0)⟩, ⟨some 12, none, .nilCheck (.t 11)⟩, ⟨some 13, none, .fieldAddr 4 (.t 12)⟩, ⟨some 14, none, .load1 (.t 13)⟩, ⟨some 15, none, .mov (.t 1)⟩, ⟨some 16, none, .lookup false .nilPtr (.t 14) (.t 15) true⟩, ⟨some 10, none, .mov (.t 16)⟩, ⟨some 17, none, .extract (.t 10) 0⟩, ⟨some 18, none, .extract (.t 10) 1⟩, ⟨some 8, none, .mov (.t 17)⟩, ⟨some 9, none, .mov (.t 18)⟩])
(.seq (.seq (.region [⟨some 19, none, .mov (.t 9)⟩, ⟨some 20, none, .un .not (.t 19)⟩])
(.cond (.t 20) (.seq (.region [⟨some 6, none, .mov (.c .nilSlice)⟩, ⟨some 7, none, .mov (.c (.int .i64 180))⟩])
.ret) .skip))
(.seq (.region [⟨some 21, none, .mov (.t 0)⟩, ⟨some 22, none, .nilCheck (.t 21)⟩, ⟨some 23, none, .fieldAddr 5 (.t 22)⟩, ⟨some 24, none, .load1 (.t 23)⟩, ⟨some 25, none, .bin .add (.t 24) (.c (.int .i64 1))⟩, ⟨some 26, none, .nilCheck (.t 21)⟩, ⟨some 27, none, .fieldAddr 5 (.t 26)⟩, ⟨none, none, .store 1 (.t 27) (.t 25)⟩])
(.seq (.region [⟨some 28, none, .mov (.t 8)⟩, ⟨some 29, none, .nilCheck (.t 28)⟩, ⟨some 30, none, .fieldAddr 2 (.t 29)⟩, ⟨some 31, none, .load1 (.t 30)⟩, ⟨some 32, none, .mov (.t 2)⟩, ⟨some 33, none, .lenSl (.t 32)⟩, ⟨some 34, none, .bin .add (.t 31) (.t 33)⟩, ⟨some 35, none, .nilCheck (.t 28)⟩, ⟨some 36, none, .fieldAddr 2 (.t 35)⟩, ⟨none, none, .store 1 (.t 36) (.t 34)⟩])
(.seq (.draw [(⟨some 37, none, .mov (.t 8)⟩, .pure), (⟨some 38, none, .mov (.t 8)⟩, .pure), (⟨some 39, none, .nilCheck (.t 38)⟩, .pure), (⟨some 40, none, .fieldAddr 1 (.t 39)⟩, .pure), (⟨some 41, none, .load1 (.t 40)⟩, .read [17, 14, 13, 12, 11, 5]), (⟨some 43, none, .mov (.t 0)⟩, .pure), (⟨some 44, none, .nilCheck (.t 43)⟩, .pure), (⟨some 45, none, .fieldAddr 5 (.t 44)⟩, .pure), (⟨some 46, none, .load1 (.t 45)⟩, .read [17, 14, 13, 12]), (⟨some 47, none, .mov (.t 2)⟩, .pure), (⟨some 42, none, .callF 36 [(.t 41)]⟩, .alone 5), (⟨some 48, none, .callF 37 [(.t 47)]⟩, .alone 11), (⟨some 49, none, .build [(.int .i64 0), .nilSlice] [(0, 1, (.t 46)), (1, 1, (.t 48))]⟩, .alone 12), (⟨some 50, none, .buildSlice 1 [(.int .i64 0), .nilSlice] [(0, 2, (.t 49))]⟩, .alone 13), (⟨some 51, none, .append 2 32 [] (.t 42) (.t 50)⟩, .alone 14), (⟨some 52, none, .nilCheck (.t 37)⟩, .pure), (⟨some 53, none, .fieldAddr 1 (.t 52)⟩, .pure), (⟨none, none, .store 1 (.t 53) (.t 51)⟩, .alone 17)])
(.seq (.region [⟨some 54, none, .mov (.t 0)⟩, ⟨some 55, none, .callF 38 [(.t 54), (.c .nilSlice)]⟩, ⟨some 6, none, .mov (.t 55)⟩, ⟨some 7, none, .mov (.c (.int .i64 0))⟩])
.ret)))))))⟩
theorem ok20 : Fok 20 d20 := ⟨_, Tryz.func20, by kernel_rfl⟩
/- (*stint/house.House).Held -/
def d21 : DFunc := ⟨2, [.tmp 4], (.seq (.region [⟨some 4, none, .mov (.c (.int .i64 0))⟩])
(.seq (.seq (.region [⟨some 8, none, .mov (.t 0)⟩, ⟨some 9, none, .nilCheck (.t 8)⟩, ⟨some 10, none, .fieldAddr 4 (.t 9)⟩, ⟨some 11, none, .load1 (.t 10)⟩, ⟨some 12, none, .mov (.t 1)⟩, ⟨some 13, none, .lookup false .nilPtr (.t 11) (.t 12) true⟩, ⟨some 7, none, .mov (.t 13)⟩, ⟨some 14, none, .extract (.t 7) 0⟩, ⟨some 15, none, .extract (.t 7) 1⟩, ⟨some 5, none, .mov (.t 14)⟩, ⟨some 6, none, .mov (.t 15)⟩])
(.seq (.region [⟨some 16, none, .mov (.t 6)⟩])
(.cond (.t 16) (.seq (.draw [(⟨some 17, none, .mov (.t 5)⟩, .pure), (⟨some 18, none, .nilCheck (.t 17)⟩, .pure), (⟨some 19, none, .fieldAddr 2 (.t 18)⟩, .pure), (⟨some 20, none, .load1 (.t 19)⟩, .read []), (⟨some 21, none, .mov (.t 5)⟩, .pure), (⟨some 22, none, .nilCheck (.t 21)⟩, .pure), (⟨some 23, none, .fieldAddr 4 (.t 22)⟩, .pure), (⟨some 24, none, .load1 (.t 23)⟩, .read []), (⟨some 25, none, .bin .sub (.t 20) (.t 24)⟩, .pure), (⟨some 4, none, .mov (.t 25)⟩, .pure)])
.ret) .skip)))
(.seq (.region [⟨some 4, none, .mov (.c (.int .i64 0))⟩])
.ret)))⟩
theorem ok21 : Fok 21 d21 := ⟨_, Tryz.func21, by kernel_rfl⟩
/- stint/engine.New -/
def d32 : DFunc := ⟨2, [.tmp 4, .tmp 5, .tmp 6], (.seq (.region [⟨some 2, none, .box (.t 0)⟩, ⟨some 4, none, .mov (.c .nilPtr)⟩, ⟨some 5, none, .mov (.c .nilSlice)⟩, ⟨some 6, none, .mov (.c (.int .i64 0))⟩])
(.seq (.region [⟨some 12, none, .loadN 3 (.t 2)⟩, ⟨some 13, none, .mov (.t 1)⟩, ⟨some 14, none, .callF 51 [(.t 12), (.t 13)]⟩, ⟨some 11, none, .mov (.t 14)⟩, ⟨some 15, none, .extract (.t 11) 0⟩, ⟨some 16, none, .extract (.t 11) 1⟩, ⟨some 7, none, .mov (.t 15)⟩, ⟨some 8, none, .mov (.t 16)⟩])
(.seq (.seq (.region [⟨some 17, none, .mov (.t 8)⟩, ⟨some 18, none, .bin .neq (.t 17) (.c (.int .i64 0))⟩])
(.cond (.t 18) (.seq (.region [⟨some 19, none, .mov (.t 8)⟩, ⟨some 4, none, .mov (.c .nilPtr)⟩, ⟨some 5, none, .mov (.c .nilSlice)⟩, ⟨some 6, none, .mov (.t 19)⟩])
.ret) .skip))
(.seq (.region [⟨some 21, none, .loadN 3 (.t 2)⟩, ⟨some 22, none, .callF 52 [(.t 21)]⟩, ⟨some 20, none, .mov (.t 22)⟩, ⟨some 23, none, .extract (.t 20) 0⟩, ⟨some 24, none, .extract (.t 20) 1⟩, ⟨some 25, none, .extract (.t 20) 2⟩, ⟨some 9, none, .mov (.t 23)⟩, ⟨some 10, none, .mov (.t 24)⟩, ⟨some 8, none, .mov (.t 25)⟩])
(.seq (.seq (.region [⟨some 26, none, .mov (.t 8)⟩, ⟨some 27, none, .bin .neq (.t 26) (.c (.int .i64 0))⟩])
(.cond (.t 27) (.seq (.region [⟨some 28, none, .mov (.t 8)⟩, ⟨some 4, none, .mov (.c .nilPtr)⟩, ⟨some 5, none, .mov (.c .nilSlice)⟩, ⟨some 6, none, .mov (.t 28)⟩])
.ret) .skip))
(.seq (.region [⟨some 29, none, .mov (.t 7)⟩, ⟨some 30, none, .mov (.t 9)⟩, ⟨some 31, none, .nilCheck (.t 29)⟩, ⟨some 32, none, .fieldAddr 5 (.t 31)⟩, ⟨none, none, .store 1 (.t 32) (.t 30)⟩])
(.seq (.region [⟨some 33, none, .mov (.t 7)⟩, ⟨some 34, none, .mov (.t 10)⟩, ⟨some 4, none, .mov (.t 33)⟩, ⟨some 5, none, .mov (.t 34)⟩, ⟨some 6, none, .mov (.c (.int .i64 0))⟩])
.ret)))))))⟩
theorem ok32 : Fok 32 d32 := ⟨_, Tryz.func32, by kernel_rfl⟩
/- stint/house.made -/
def d33 : DFunc := ⟨4, [.tmp 8, .tmp 9, .tmp 10], (.seq (.region [⟨some 4, none, .box (.t 0)⟩, ⟨some 8, none, .mov (.c .nilPtr)⟩, ⟨some 9, none, .mov (.c .nilSlice)⟩, ⟨some 10, none, .mov (.c (.int .i64 0))⟩])
(.seq (.seq (.region [⟨some 11, none, .mov (.t 3)⟩, ⟨some 12, none, .bin .neq (.t 11) (.c (.int .i64 0))⟩])
(.cond (.t 12) (.seq (.region [⟨some 13, none, .mov (.t 3)⟩, ⟨some 8, none, .mov (.c .nilPtr)⟩, ⟨some 9, none, .mov (.c .nilSlice)⟩, ⟨some 10, none, .mov (.t 13)⟩])
.ret) .skip))
(.seq (.region [⟨some 14, none, .loadN 3 (.t 4)⟩, ⟨some 15, none, .mov (.t 1)⟩, ⟨some 16, none, .mkMap⟩, ⟨some 17, none, .build [(.int .i64 0), (.int .i64 0), (.int .i64 0), .nilPtr, .nilMap, (.int .i64 0)] [(0, 3, (.t 14)), (3, 1, (.t 15)), (4, 1, (.t 16))]⟩, ⟨some 18, none, .box (.t 17)⟩, ⟨some 19, none, .mov (.t 2)⟩, ⟨some 8, none, .mov (.t 18)⟩, ⟨some 9, none, .mov (.t 19)⟩, ⟨some 10, none, .mov (.c (.int .i64 0))⟩])
.ret)))⟩
theorem ok33 : Fok 33 d33 := ⟨_, Tryz.func33, by kernel_rfl⟩
/- (*stint/engine.Engine).Join -/
def d34 : DFunc := ⟨2, [.tmp 4], (.seq (.region [⟨some 4, none, .mov (.c (.int .i64 0))⟩])
(.seq (.seq (.region [⟨some 5, none, .mov (.t 0)⟩, ⟨some 6, none, .nilCheck (.t 5)⟩, ⟨some 7, none, .fieldAddr 7 (.t 6)⟩, ⟨some 8, none, .load1 (.t 7)⟩, ⟨some 9, none, .mov (.t 1)⟩, ⟨some 10, none, .callF 53 [(.t 8), (.t 9)]⟩, ⟨some 11, none, .bin .neq (.t 10) (.c (.int .i64 0))⟩])
(.cond (.t 11) (.seq (.region [⟨some 4, none, .mov (.c (.int .i64 171))⟩])
.ret) .skip))
(.seq (.region [⟨some 12, none, .mov (.t 0)⟩, ⟨some 13, none, .nilCheck (.t 12)⟩, ⟨some 14, none, .fieldAddr 37 (.t 13)⟩, ⟨some 15, none, .load1 (.t 14)⟩, ⟨some 16, none, .bin .add (.t 15) (.c (.int .i64 1))⟩, ⟨some 17, none, .nilCheck (.t 12)⟩, ⟨some 18, none, .fieldAddr 37 (.t 17)⟩, ⟨none, none, .store 1 (.t 18) (.t 16)⟩])
(.seq (.region [⟨some 4, none, .mov (.c (.int .i64 0))⟩])
.ret))))⟩
theorem ok34 : Fok 34 d34 := ⟨_, Tryz.func34, by kernel_rfl⟩
/- stint/intake.New -/
def d35 : DFunc := ⟨1, [.tmp 2, .tmp 3], (.seq (.region [⟨some 2, none, .mov (.c .nilPtr)⟩, ⟨some 3, none, .mov (.c (.int .i64 0))⟩])
(.seq (.seq (.region [⟨some 4, none, .mov (.t 0)⟩, ⟨some 5, none, .bin .lss (.t 4) (.c (.int .i64 1))⟩, ⟨some 6, none, .mov (.t 5)⟩, ⟨some 7, some (6, false), .mov (.t 0)⟩, ⟨some 8, some (6, false), .bin .gtr (.t 7) (.c (.int .i64 65535))⟩, ⟨some 9, none, .pick (.t 6) (.c (.bool true)) (.t 8)⟩])
(.cond (.t 9) (.seq (.region [⟨some 2, none, .mov (.c .nilPtr)⟩, ⟨some 3, none, .mov (.c (.int .i64 60))⟩])
.ret) .skip))
(.seq (.region [⟨some 10, none, .mov (.t 0)⟩, ⟨some 11, none, .build [(.int .i64 0), (.int .i64 0), .nilSlice, (.int .i64 0), (.int .i64 0), (.bool false), (.bool false)] [(0, 1, (.t 10))]⟩, ⟨some 12, none, .box (.t 11)⟩, ⟨some 2, none, .mov (.t 12)⟩, ⟨some 3, none, .mov (.c (.int .i64 0))⟩])
.ret)))⟩
theorem ok35 : Fok 35 d35 := ⟨_, Tryz.func35, by kernel_rfl⟩
/- slices.Clip[[]stint/house.piece,stint/house.piece] -/
def d36 : DFunc := ⟨1, [.tmp 2], (.seq (.region [⟨some 2, none, .mov (.c .nilSlice)⟩])
(.seq (.region [⟨some 3, none, .mov (.t 0)⟩, ⟨some 4, none, .mov (.t 0)⟩, ⟨some 5, none, .lenSl (.t 4)⟩, ⟨some 6, none, .mov (.t 0)⟩, ⟨some 7, none, .lenSl (.t 6)⟩, ⟨some 8, none, .sliceSl 2 (.t 3) none (some (.t 5)) (some (.t 7))⟩, ⟨some 2, none, .mov (.t 8)⟩])
.ret))⟩
theorem ok36 : Fok 36 d36 := ⟨_, Tryz.func36, by kernel_rfl⟩
/- bytes.Clone -/
def d37 : DFunc := ⟨1, [.tmp 2], (.seq (.region [⟨some 2, none, .mov (.c .nilSlice)⟩])
(.seq (.seq (.region [⟨some 3, none, .mov (.t 0)⟩, ⟨some 4, none, .eqv false (.ref 0) (.t 3) (.c .nilSlice)⟩])
(.cond (.t 4) (.seq (.region [⟨some 2, none, .mov (.c .nilSlice)⟩])
.ret) .skip))
(.seq (.region [⟨some 5, none, .buildSlice 0 [] []⟩, ⟨some 6, none, .mov (.t 0)⟩, ⟨some 7, none, .append 1 1 [] (.t 5) (.t 6)⟩, ⟨some 2, none, .mov (.t 7)⟩])
.ret)))⟩
theorem ok37 : Fok 37 d37 := ⟨_, Tryz.func37, by kernel_rfl⟩
/- (*stint/house.House).goes -/
def d38 : DFunc := ⟨2, [.tmp 4], (.seq (.region [⟨some 4, none, .mov (.c .nilSlice)⟩])
(.seq (.seq (.region [⟨some 6, none, .mov (.t 0)⟩, ⟨some 7, none, .callF 54 [(.t 6)]⟩, ⟨some 5, none, .mov (.t 7)⟩])
(.block 0 (.loop (.seq (.seq (.region [⟨some 8, none, .mov (.t 5)⟩, ⟨some 9, none, .bin .geq (.t 8) (.c (.int .i64 0))⟩])
(.cond (.t 9) .skip (.exit 0)))
(.seq (.block 1 (.region [⟨some 12, none, .mov (.t 1)⟩, ⟨some 13, none, .mov (.t 0)⟩, ⟨some 14, none, .mov (.t 5)⟩, ⟨some 15, none, .callF 55 [(.t 13), (.t 14)]⟩, ⟨some 16, none, .append 12 152 [] (.t 12) (.t 15)⟩, ⟨some 1, none, .mov (.t 16)⟩]))
(.region [⟨some 10, none, .mov (.t 0)⟩, ⟨some 11, none, .callF 54 [(.t 10)]⟩, ⟨some 5, none, .mov (.t 11)⟩]))))))
(.seq (.region [⟨some 17, none, .mov (.t 1)⟩, ⟨some 4, none, .mov (.t 17)⟩])
.ret)))⟩
theorem ok38 : Fok 38 d38 := ⟨_, Tryz.func38, by kernel_rfl⟩
/- stint/verbs.Check -/
def d42 : DFunc := ⟨1, [.tmp 2], (.seq (.region [⟨some 1, none, .box (.t 0)⟩, ⟨some 2, none, .mov (.c (.int .i64 0))⟩])
(.seq (.region [⟨some 3, none, .mov (.c (.int .i64 0))⟩])
(.seq (.seq (.region [⟨some 4, none, .fieldAddr 0 (.t 1)⟩, ⟨some 5, none, .load1 (.t 4)⟩, ⟨some 6, none, .bin .eql (.t 5) (.c (.int .i64 1))⟩])
(.cond (.t 6) (.region [⟨some 7, none, .fieldAddr 5 (.t 1)⟩, ⟨some 8, none, .load1 (.t 7)⟩, ⟨some 3, none, .mov (.t 8)⟩]) .skip))
(.seq (.seq (.region [⟨some 9, none, .loadN 8 (.t 1)⟩, ⟨some 10, none, .callF 56 [(.t 9)]⟩, ⟨some 11, none, .un .not (.t 10)⟩, ⟨some 12, none, .mov (.t 11)⟩, ⟨some 13, some (12, false), .mov (.t 3)⟩, ⟨some 14, some (12, false), .bin .gtr (.t 13) (.c (.int .i64 65535))⟩, ⟨some 15, none, .pick (.t 12) (.c (.bool true)) (.t 14)⟩, ⟨some 16, none, .mov (.t 15)⟩, ⟨some 17, some (16, false), .fieldAddr 7 (.t 1)⟩, ⟨some 18, some (16, false), .load1 (.t 17)⟩, ⟨some 19, some (16, false), .lenSl (.t 18)⟩, ⟨some 20, some (16, false), .mov (.t 3)⟩, ⟨some 21, some (16, false), .bin .neq (.t 19) (.t 20)⟩, ⟨some 22, none, .pick (.t 16) (.c (.bool true)) (.t 21)⟩])
(.cond (.t 22) (.seq (.region [⟨some 2, none, .mov (.c (.int .i64 72))⟩])
.ret) .skip))
(.seq (.region [⟨some 2, none, .mov (.c (.int .i64 0))⟩])
.ret)))))⟩
theorem ok42 : Fok 42 d42 := ⟨_, Tryz.func42, by kernel_rfl⟩
/- stint/verbs.formOf -/
def d50 : DFunc := ⟨1, [.cell 2 2 true, .tmp 3], (.seq (.region [⟨some 2, none, .alloc [(.str []), (.str [])]⟩, ⟨some 3, none, .mov (.c (.bool false))⟩])
(.seq (.seq (.region [⟨some 4, none, .mov (.t 0)⟩, ⟨some 5, none, .bin .lss (.t 4) (.c (.int .i64 1))⟩, ⟨some 6, none, .mov (.t 5)⟩, ⟨some 7, some (6, false), .mov (.t 0)⟩, ⟨some 8, some (6, false), .bin .gtr (.t 7) (.c (.int .i64 25))⟩, ⟨some 9, none, .pick (.t 6) (.c (.bool true)) (.t 8)⟩])
(.cond (.t 9) (.seq (.region [⟨some 10, none, .build [(.str []), (.str [])] []⟩, ⟨none, none, .store 2 (.t 2) (.t 10)⟩, ⟨some 3, none, .mov (.c (.bool false))⟩])
.ret) .skip))
(.seq (.region [⟨some 11, none, .callF 66 []⟩, ⟨some 12, none, .mov (.t 0)⟩, ⟨some 13, none, .indexArr 26 2 true (.t 11) (.t 12)⟩, ⟨none, none, .store 2 (.t 2) (.t 13)⟩, ⟨some 3, none, .mov (.c (.bool true))⟩])
.ret)))⟩
theorem ok50 : Fok 50 d50 := ⟨_, Tryz.func50, by kernel_rfl⟩
/- stint/engine.made -/
def d51 : DFunc := ⟨2, [.tmp 4, .tmp 5], (.seq (.region [⟨some 2, none, .box (.t 0)⟩, ⟨some 4, none, .mov (.c .nilPtr)⟩, ⟨some 5, none, .mov (.c (.int .i64 0))⟩])
(.seq (.seq (.region [⟨some 7, none, .loadN 3 (.t 2)⟩, ⟨some 8, none, .callF 67 [(.t 7)]⟩, ⟨some 6, none, .mov (.t 8)⟩])
(.seq (.region [⟨some 9, none, .mov (.t 6)⟩, ⟨some 10, none, .bin .neq (.t 9) (.c (.int .i64 0))⟩])
(.cond (.t 10) (.seq (.region [⟨some 11, none, .mov (.t 6)⟩, ⟨some 4, none, .mov (.c .nilPtr)⟩, ⟨some 5, none, .mov (.t 11)⟩])
.ret) .skip)))
(.seq (.seq (.region [⟨some 12, none, .mov (.t 1)⟩, ⟨some 13, none, .bin .lss (.t 12) (.c (.int .i64 0))⟩, ⟨some 14, none, .mov (.t 13)⟩, ⟨some 15, some (14, false), .mov (.t 1)⟩, ⟨some 16, some (14, false), .bin .gtr (.t 15) (.c (.int .i64 1099511627776))⟩, ⟨some 17, none, .pick (.t 14) (.c (.bool true)) (.t 16)⟩])
(.cond (.t 17) (.seq (.region [⟨some 4, none, .mov (.c .nilPtr)⟩, ⟨some 5, none, .mov (.c (.int .i64 170))⟩])
.ret) .skip))
(.seq (.draw [(⟨some 18, none, .loadN 3 (.t 2)⟩, .read [8, 7]), (⟨some 19, none, .mov (.t 1)⟩, .pure), (⟨some 20, none, .mov (.t 1)⟩, .pure), (⟨some 21, none, .callF 68 []⟩, .alone 3), (⟨some 22, none, .callF 69 []⟩, .alone 4), (⟨some 23, none, .mkMap⟩, .late), (⟨some 24, none, .mkMap⟩, .late), (⟨some 25, none, .build [(.int .i64 0), (.int .i64 0), (.int .i64 0), (.int .i64 0), (.int .i64 0), .nilPtr, .nilPtr, .nilPtr, (.bool false), (.int .i64 0), (.int .i64 0), (.int .i64 0), (.int .i64 0), (.int .i64 0), (.int .i64 0), (.int .i64 0), (.int .i64 0), (.int .i64 0), (.int .i64 0), (.int .i64 0), (.int .i64 0), (.int .i64 0), (.int .i64 0), (.int .i64 0), (.int .i64 0), (.int .i64 0), (.int .i64 0), (.int .i64 0), (.int .i64 0), (.int .i64 0), (.int .i64 0), (.int .i64 0), (.int .i64 0), (.int .i64 0), (.int .i64 0), (.int .i64 0), (.int .i64 0), (.int .i64 0), .nilMap, .nilMap, .nilSlice] [(0, 3, (.t 18)), (3, 1, (.t 19)), (4, 1, (.t 20)), (6, 1, (.t 21)), (7, 1, (.t 22)), (38, 1, (.t 23)), (39, 1, (.t 24))]⟩, .alone 7), (⟨some 26, none, .box (.t 25)⟩, .alone 8), (⟨some 4, none, .mov (.t 26)⟩, .pure), (⟨some 5, none, .mov (.c (.int .i64 0))⟩, .pure)])
.ret))))⟩
theorem ok51 : Fok 51 d51 := ⟨_, Tryz.func51, by kernel_rfl⟩
/- stint/ledger.New -/
def d52 : DFunc := ⟨1, [.tmp 2, .tmp 3, .tmp 4], (.seq (.region [⟨some 1, none, .box (.t 0)⟩, ⟨some 2, none, .mov (.c .nilPtr)⟩, ⟨some 3, none, .mov (.c .nilSlice)⟩, ⟨some 4, none, .mov (.c (.int .i64 0))⟩])
(.seq (.seq (.region [⟨some 7, none, .loadN 3 (.t 1)⟩, ⟨some 8, none, .callF 67 [(.t 7)]⟩, ⟨some 5, none, .mov (.t 8)⟩])
(.seq (.region [⟨some 9, none, .mov (.t 5)⟩, ⟨some 10, none, .bin .neq (.t 9) (.c (.int .i64 0))⟩])
(.cond (.t 10) (.seq (.region [⟨some 11, none, .mov (.t 5)⟩, ⟨some 2, none, .mov (.c .nilPtr)⟩, ⟨some 3, none, .mov (.c .nilSlice)⟩, ⟨some 4, none, .mov (.t 11)⟩])
.ret) .skip)))
(.seq (.region [⟨some 12, none, .loadN 3 (.t 1)⟩, ⟨some 13, none, .mkMap⟩, ⟨some 14, none, .build [(.int .i64 0), (.int .i64 0), (.int .i64 0), .nilMap, (.int .i64 0), .nilSlice, (.int .i64 0), (.int .i64 0), .nilSlice] [(0, 3, (.t 12)), (3, 1, (.t 13)), (4, 1, (.c (.int .i64 1)))]⟩, ⟨some 15, none, .box (.t 14)⟩, ⟨some 6, none, .mov (.t 15)⟩])
(.seq (.region [⟨some 16, none, .mov (.t 6)⟩, ⟨some 17, none, .callF 70 [(.t 16), (.c (.int .i64 1))]⟩])
(.seq (.region [⟨some 18, none, .mov (.t 6)⟩, ⟨some 19, none, .callF 71 [(.t 18)]⟩])
(.seq (.region [⟨some 20, none, .mov (.t 6)⟩, ⟨some 21, none, .mov (.t 6)⟩, ⟨some 22, none, .callF 72 [(.t 21)]⟩, ⟨some 2, none, .mov (.t 20)⟩, ⟨some 3, none, .mov (.t 22)⟩, ⟨some 4, none, .mov (.c (.int .i64 0))⟩])
.ret))))))⟩
theorem ok52 : Fok 52 d52 := ⟨_, Tryz.func52, by kernel_rfl⟩
/- (*stint/seats.Seats).Open -/
def d53 : DFunc := ⟨2, [.tmp 4], (.seq (.region [⟨some 4, none, .mov (.c (.int .i64 0))⟩])
(.seq (.seq (.region [⟨some 7, none, .mov (.t 1)⟩, ⟨some 8, none, .bin .lss (.t 7) (.c (.int .i64 0))⟩, ⟨some 9, none, .mov (.t 8)⟩, ⟨some 10, some (9, false), .mov (.t 1)⟩, ⟨some 11, some (9, false), .bin .geq (.t 10) (.c (.int .i64 64))⟩, ⟨some 12, none, .pick (.t 9) (.c (.bool true)) (.t 11)⟩])
(.cond (.t 12) (.seq (.region [⟨some 4, none, .mov (.c (.int .i64 160))⟩])
.ret) .skip))
(.seq (.seq (.region [⟨some 14, none, .mov (.t 0)⟩, ⟨some 15, none, .nilCheck (.t 14)⟩, ⟨some 16, none, .fieldAddr 0 (.t 15)⟩, ⟨some 17, none, .load1 (.t 16)⟩, ⟨some 18, none, .mov (.t 1)⟩, ⟨some 19, none, .lookup false .nilPtr (.t 17) (.t 18) true⟩, ⟨some 13, none, .mov (.t 19)⟩, ⟨some 20, none, .extract (.t 13) 0⟩, ⟨some 21, none, .extract (.t 13) 1⟩, ⟨some 5, none, .mov (.t 20)⟩, ⟨some 6, none, .mov (.t 21)⟩])
(.seq (.region [⟨some 22, none, .mov (.t 6)⟩])
(.cond (.t 22) (.seq (.region [⟨some 4, none, .mov (.c (.int .i64 161))⟩])
.ret) .skip)))
(.seq (.region [⟨some 23, none, .mov (.t 0)⟩, ⟨some 24, none, .nilCheck (.t 23)⟩, ⟨some 25, none, .fieldAddr 0 (.t 24)⟩, ⟨some 26, none, .load1 (.t 25)⟩, ⟨some 27, none, .mov (.t 1)⟩, ⟨some 28, none, .mkMap⟩, ⟨none, none, .mapUpdate true (.t 28) (.c (.str [100, 101, 102, 97, 117, 108, 116])) (.c (.bool true))⟩, ⟨some 29, none, .mov (.t 28)⟩, ⟨some 30, none, .build [(.str []), .nilMap, (.int .i64 0), (.int .i64 0), (.bool false), (.bool false)] [(0, 1, (.c (.str [100, 101, 102, 97, 117, 108, 116]))), (1, 1, (.t 29))]⟩, ⟨some 31, none, .box (.t 30)⟩, ⟨none, none, .mapUpdate false (.t 26) (.t 27) (.t 31)⟩])
(.seq (.region [⟨some 4, none, .mov (.c (.int .i64 0))⟩])
.ret)))))⟩
theorem ok53 : Fok 53 d53 := ⟨_, Tryz.func53, by kernel_rfl⟩
/- (*stint/house.House).first -/
def d54 : DFunc := ⟨1, [.tmp 2], (.seq (.region [⟨some 2, none, .mov (.c (.int .i64 0))⟩])
(.seq (.region [⟨some 3, none, .mov (.c (.int .i64 (-1)))⟩])
(.seq (.seq (.region [⟨some 6, none, .mov (.t 0)⟩, ⟨some 7, none, .nilCheck (.t 6)⟩, ⟨some 8, none, .fieldAddr 4 (.t 7)⟩, ⟨some 9, none, .load1 (.t 8)⟩, ⟨some 10, none, .rangeMap (.t 9)⟩])
(.block 0 (.loop (.seq (.region [⟨some 11, none, .nextMap (.t 10)⟩, ⟨some 12, none, .extract (.t 11) 0⟩])
(.seq (.cond (.t 12) .skip (.exit 0))
(.block 1 (.seq (.region [⟨some 13, none, .entry (.t 10)⟩, ⟨some 14, none, .extract (.t 13) 0⟩, ⟨some 15, none, .extract (.t 13) 1⟩, ⟨some 4, none, .mov (.t 14)⟩, ⟨some 5, none, .mov (.t 15)⟩])
(.seq (.seq (.region [⟨some 16, none, .mov (.t 0)⟩, ⟨some 17, none, .nilCheck (.t 16)⟩, ⟨some 18, none, .fieldAddr 3 (.t 17)⟩, ⟨some 19, none, .load1 (.t 18)⟩, ⟨some 20, none, .mov (.t 4)⟩, ⟨some 21, none, .callF 73 [(.t 19), (.t 20)]⟩])
(.cond (.t 21) (.exit 1) .skip))
(.seq (.seq (.region [⟨some 22, none, .mov (.t 5)⟩, ⟨some 23, none, .nilCheck (.t 22)⟩, ⟨some 24, none, .fieldAddr 14 (.t 23)⟩, ⟨some 25, none, .load1 (.t 24)⟩, ⟨some 26, none, .eqv false .ptr (.t 25) (.c .nilPtr)⟩])
(.cond (.t 26) (.region [⟨some 27, none, .mov (.t 5)⟩, ⟨some 28, none, .mov (.t 5)⟩, ⟨some 29, none, .callF 74 [(.t 28)]⟩, ⟨some 30, none, .nilCheck (.t 27)⟩, ⟨some 31, none, .fieldAddr 14 (.t 30)⟩, ⟨none, none, .store 1 (.t 31) (.t 29)⟩]) .skip))
(.seq (.draw [(⟨some 32, none, .mov (.t 5)⟩, .pure), (⟨some 33, none, .nilCheck (.t 32)⟩, .pure), (⟨some 34, none, .fieldAddr 14 (.t 33)⟩, .pure), (⟨some 35, none, .load1 (.t 34)⟩, .read []), (⟨some 36, none, .eqv true .ptr (.t 35) (.c .nilPtr)⟩, .pure), (⟨some 37, none, .mov (.t 36)⟩, .pure), (⟨some 38, some (37, true), .mov (.t 3)⟩, .pure), (⟨some 39, some (37, true), .bin .lss (.t 38) (.c (.int .i64 0))⟩, .pure), (⟨some 40, some (37, true), .mov (.t 39)⟩, .pure), (⟨some 41, some (40, false), .mov (.t 5)⟩, .pure), (⟨some 42, some (40, false), .nilCheck (.t 41)⟩, .pure), (⟨some 43, some (40, false), .fieldAddr 14 (.t 42)⟩, .pure), (⟨some 44, some (40, false), .load1 (.t 43)⟩, .read []), (⟨some 45, some (40, false), .nilCheck (.t 44)⟩, .pure), (⟨some 46, some (40, false), .fieldAddr 1 (.t 45)⟩, .pure), (⟨some 47, some (40, false), .load1 (.t 46)⟩, .read []), (⟨some 48, some (40, false), .mov (.t 0)⟩, .pure), (⟨some 49, some (40, false), .nilCheck (.t 48)⟩, .pure), (⟨some 50, some (40, false), .fieldAddr 4 (.t 49)⟩, .pure), (⟨some 51, some (40, false), .load1 (.t 50)⟩, .read []), (⟨some 52, some (40, false), .mov (.t 3)⟩, .pure), (⟨some 53, some (40, false), .lookup false .nilPtr (.t 51) (.t 52) false⟩, .read []), (⟨some 54, some (40, false), .nilCheck (.t 53)⟩, .pure), (⟨some 55, some (40, false), .fieldAddr 14 (.t 54)⟩, .pure), (⟨some 56, some (40, false), .load1 (.t 55)⟩, .read []), (⟨some 57, some (40, false), .nilCheck (.t 56)⟩, .pure), (⟨some 58, some (40, false), .fieldAddr 1 (.t 57)⟩, .pure), (⟨some 59, some (40, false), .load1 (.t 58)⟩, .read []), (⟨some 60, some (40, false), .bin .lss (.t 47) (.t 59)⟩, .pure), (⟨some 61, some (37, true), .pick (.t 40) (.c (.bool true)) (.t 60)⟩, .pure), (⟨some 62, none, .pick (.t 37) (.t 61) (.c (.bool false))⟩, .pure)])
(.cond (.t 62) (.region [⟨some 63, none, .mov (.t 4)⟩, ⟨some 3, none, .mov (.t 63)⟩]) .skip)))))))))))
(.seq (.region [⟨some 64, none, .mov (.t 3)⟩, ⟨some 2, none, .mov (.t 64)⟩])
.ret))))⟩
theorem ok54 : Fok 54 d54 := ⟨_, Tryz.func54, by kernel_rfl⟩
/- (*stint/house.House).does -/
def d55 : DFunc := ⟨2, [.tmp 4], (.seq (.region [⟨some 4, none, .mov (.c .nilSlice)⟩])
(.seq (.region [⟨some 12, none, .mov (.t 0)⟩, ⟨some 13, none, .nilCheck (.t 12)⟩, ⟨some 14, none, .fieldAddr 4 (.t 13)⟩, ⟨some 15, none, .load1 (.t 14)⟩, ⟨some 16, none, .mov (.t 1)⟩, ⟨some 17, none, .lookup false .nilPtr (.t 15) (.t 16) false⟩, ⟨some 5, none, .mov (.t 17)⟩])
(.seq (.region [⟨some 18, none, .mov (.t 5)⟩, ⟨some 19, none, .nilCheck (.t 18)⟩, ⟨some 20, none, .fieldAddr 14 (.t 19)⟩, ⟨some 21, none, .load1 (.t 20)⟩, ⟨some 6, none, .mov (.t 21)⟩])
(.seq (.region [⟨some 22, none, .mov (.t 5)⟩, ⟨some 23, none, .mov (.t 5)⟩, ⟨some 24, none, .mov (.t 6)⟩, ⟨some 25, none, .nilCheck (.t 24)⟩, ⟨some 26, none, .fieldAddr 2 (.t 25)⟩, ⟨some 27, none, .load1 (.t 26)⟩, ⟨some 28, none, .nilCheck (.t 22)⟩, ⟨some 29, none, .fieldAddr 14 (.t 28)⟩, ⟨none, none, .store 1 (.t 29) (.c .nilPtr)⟩, ⟨some 30, none, .nilCheck (.t 23)⟩, ⟨some 31, none, .fieldAddr 4 (.t 30)⟩, ⟨none, none, .store 1 (.t 31) (.t 27)⟩])
(.seq (.region [⟨some 32, none, .mov (.t 1)⟩, ⟨some 33, none, .build [(.int .i64 0), (.int .i64 0), (.int .i64 0), .nilSlice, (.int .i64 0), (.int .i64 0), (.int .i64 0), (.int .i64 0), (.int .i64 0), (.str []), .nilSlice, .nilSlice] [(0, 1, (.c (.int .i64 4))), (5, 1, (.t 32))]⟩, ⟨some 34, none, .buildSlice 1 [(.int .i64 0), (.int .i64 0), (.int .i64 0), .nilSlice, (.int .i64 0), (.int .i64 0), (.int .i64 0), (.int .i64 0), (.int .i64 0), (.str []), .nilSlice, .nilSlice] [(0, 12, (.t 33))]⟩, ⟨some 7, none, .mov (.t 34)⟩])
(.seq (.block 0 (.seq (.region [⟨some 36, none, .mov (.t 6)⟩, ⟨some 37, none, .nilCheck (.t 36)⟩, ⟨some 38, none, .fieldAddr 0 (.t 37)⟩, ⟨some 39, none, .load1 (.t 38)⟩, ⟨some 40, none, .bin .neq (.t 39) (.c (.int .i64 0))⟩, ⟨some 35, none, .mov (.t 40)⟩])
(.cond (.t 35) (.seq (.region [⟨some 41, none, .mov (.t 7)⟩, ⟨some 42, none, .mov (.t 1)⟩, ⟨some 43, none, .mov (.t 6)⟩, ⟨some 44, none, .nilCheck (.t 43)⟩, ⟨some 45, none, .fieldAddr 0 (.t 44)⟩, ⟨some 46, none, .load1 (.t 45)⟩, ⟨some 47, none, .build [(.int .i64 0), (.int .i64 0), (.int .i64 0), (.str []), .nilSlice] [(0, 1, (.t 46))]⟩, ⟨some 48, none, .build [(.int .i64 0), (.int .i64 0), (.int .i64 0), .nilSlice, (.int .i64 0), (.int .i64 0), (.int .i64 0), (.int .i64 0), (.int .i64 0), (.str []), .nilSlice, .nilSlice] [(0, 1, (.c (.int .i64 2))), (5, 1, (.t 42)), (6, 5, (.t 47))]⟩, ⟨some 49, none, .buildSlice 1 [(.int .i64 0), (.int .i64 0), (.int .i64 0), .nilSlice, (.int .i64 0), (.int .i64 0), (.int .i64 0), (.int .i64 0), (.int .i64 0), (.str []), .nilSlice, .nilSlice] [(0, 12, (.t 48))]⟩, ⟨some 50, none, .callF 75 [(.t 49)]⟩, ⟨some 51, none, .append 12 152 [] (.t 41) (.t 50)⟩, ⟨some 4, none, .mov (.t 51)⟩])
.ret) (.seq (.region [⟨some 53, none, .mov (.t 6)⟩, ⟨some 54, none, .nilCheck (.t 53)⟩, ⟨some 55, none, .fieldAddr 3 (.t 54)⟩, ⟨some 56, none, .fieldAddr 0 (.t 55)⟩, ⟨some 57, none, .load1 (.t 56)⟩, ⟨some 58, none, .bin .eql (.t 57) (.c (.int .i64 25))⟩, ⟨some 52, none, .mov (.t 58)⟩])
(.cond (.t 52) (.seq (.region [⟨some 59, none, .mov (.t 0)⟩, ⟨some 60, none, .nilCheck (.t 59)⟩, ⟨some 61, none, .fieldAddr 4 (.t 60)⟩, ⟨some 62, none, .load1 (.t 61)⟩, ⟨some 63, none, .mov (.t 1)⟩, ⟨none, none, .delete false (.t 62) (.t 63)⟩])
(.seq (.region [⟨some 65, none, .mov (.t 0)⟩, ⟨some 66, none, .nilCheck (.t 65)⟩, ⟨some 67, none, .fieldAddr 3 (.t 66)⟩, ⟨some 68, none, .load1 (.t 67)⟩, ⟨some 69, none, .mov (.t 1)⟩, ⟨some 70, none, .callF 76 [(.t 68), (.t 69)]⟩, ⟨some 64, none, .mov (.t 70)⟩, ⟨some 71, none, .extract (.t 64) 0⟩, ⟨some 72, none, .extract (.t 64) 1⟩, ⟨some 8, none, .mov (.t 71)⟩, ⟨some 9, none, .mov (.t 72)⟩])
(.seq (.region [⟨some 73, none, .mov (.t 7)⟩, ⟨some 74, none, .mov (.t 1)⟩, ⟨some 75, none, .build [(.int .i64 0), (.int .i64 0), (.int .i64 0), .nilSlice, (.int .i64 0), (.int .i64 0), (.int .i64 0), (.int .i64 0), (.int .i64 0), (.str []), .nilSlice, .nilSlice] [(0, 1, (.c (.int .i64 3))), (5, 1, (.t 74))]⟩, ⟨some 76, none, .buildSlice 1 [(.int .i64 0), (.int .i64 0), (.int .i64 0), .nilSlice, (.int .i64 0), (.int .i64 0), (.int .i64 0), (.int .i64 0), (.int .i64 0), (.str []), .nilSlice, .nilSlice] [(0, 12, (.t 75))]⟩, ⟨some 77, none, .append 12 152 [] (.t 73) (.t 76)⟩, ⟨some 78, none, .mov (.t 8)⟩, ⟨some 79, none, .callF 75 [(.t 78)]⟩, ⟨some 80, none, .append 12 152 [] (.t 77) (.t 79)⟩, ⟨some 4, none, .mov (.t 80)⟩])
.ret))) .skip)))))
(.seq (.draw [(⟨some 82, none, .mov (.t 0)⟩, .pure), (⟨some 83, none, .nilCheck (.t 82)⟩, .pure), (⟨some 84, none, .fieldAddr 3 (.t 83)⟩, .pure), (⟨some 85, none, .load1 (.t 84)⟩, .read [9]), (⟨some 86, none, .mov (.t 1)⟩, .pure), (⟨some 87, none, .mov (.t 6)⟩, .pure), (⟨some 88, none, .nilCheck (.t 87)⟩, .pure), (⟨some 89, none, .fieldAddr 3 (.t 88)⟩, .pure), (⟨some 90, none, .loadN 8 (.t 89)⟩, .read [9]), (⟨some 91, none, .callF 77 [(.t 85), (.t 86), (.t 90)]⟩, .alone 9), (⟨some 81, none, .mov (.t 91)⟩, .pure), (⟨some 92, none, .extract (.t 81) 0⟩, .pure), (⟨some 93, none, .extract (.t 81) 1⟩, .pure), (⟨some 10, none, .mov (.t 92)⟩, .pure), (⟨some 11, none, .mov (.t 93)⟩, .pure)])
(.seq (.region [⟨some 94, none, .mov (.t 7)⟩, ⟨some 95, none, .mov (.t 10)⟩, ⟨some 96, none, .callF 75 [(.t 95)]⟩, ⟨some 97, none, .append 12 152 [] (.t 94) (.t 96)⟩, ⟨some 4, none, .mov (.t 97)⟩])
.ret))))))))⟩
theorem ok55 : Fok 55 d55 := ⟨_, Tryz.func55, by kernel_rfl⟩
/- stint/verbs.right -/
def d56 : DFunc := ⟨1, [.tmp 2], (.seq (.region [⟨some 1, none, .box (.t 0)⟩, ⟨some 2, none, .mov (.c (.bool false))⟩])
(.seq (.region [⟨some 11, none, .fieldAddr 0 (.t 1)⟩, ⟨some 12, none, .load1 (.t 11)⟩, ⟨some 13, none, .callF 50 [(.t 12)]⟩, ⟨some 10, none, .mov (.t 13)⟩, ⟨some 14, none, .extract (.t 10) 0⟩, ⟨some 15, none, .extract (.t 10) 1⟩, ⟨some 3, none, .alloc [(.str []), (.str [])]⟩, ⟨none, none, .store 2 (.t 3) (.t 14)⟩, ⟨some 4, none, .mov (.t 15)⟩])
(.seq (.seq (.region [⟨some 16, none, .mov (.t 4)⟩, ⟨some 17, none, .un .not (.t 16)⟩])
(.cond (.t 17) (.seq (.region [⟨some 2, none, .mov (.c (.bool false))⟩])
.ret) .skip))
(.seq (.seq (.region [⟨some 18, none, .rangeStr (.c (.str [105, 112, 100, 116, 110, 117]))⟩])
(.block 0 (.loop (.seq (.region [⟨some 19, none, .nextStr (.t 18)⟩, ⟨some 20, none, .extract (.t 19) 0⟩])
(.seq (.cond (.t 20) .skip (.exit 0))
(.block 1 (.seq (.region [⟨some 21, none, .extract (.t 19) 2⟩, ⟨some 6, none, .mov (.t 21)⟩])
(.seq (.region [⟨some 22, none, .mov (.t 6)⟩, ⟨some 23, none, .callF 57 [(.t 22)]⟩, ⟨some 7, none, .mov (.t 23)⟩])
(.seq (.region [⟨some 24, none, .fieldAddr 1 (.t 3)⟩, ⟨some 25, none, .load1 (.t 24)⟩, ⟨some 26, none, .mov (.t 6)⟩, ⟨some 27, none, .callF 78 [(.t 25), (.t 26)]⟩, ⟨some 8, none, .mov (.t 27)⟩])
(.seq (.block 2 (.seq (.seq (.region [⟨some 29, none, .mov (.t 7)⟩, ⟨some 30, none, .bin .eql (.t 29) (.c (.int .i64 6))⟩, ⟨some 31, none, .mov (.t 30)⟩, ⟨some 32, some (31, true), .mov (.t 8)⟩, ⟨some 33, none, .pick (.t 31) (.t 32) (.c (.bool false))⟩, ⟨some 34, none, .mov (.t 33)⟩, ⟨some 35, some (34, true), .fieldAddr 6 (.t 1)⟩, ⟨some 36, some (34, true), .load1 (.t 35)⟩, ⟨some 37, some (34, true), .callF 79 [(.t 36)]⟩, ⟨some 38, some (34, true), .un .not (.t 37)⟩, ⟨some 39, none, .pick (.t 34) (.t 38) (.c (.bool false))⟩, ⟨some 28, none, .mov (.t 39)⟩])
(.cond (.t 28) .skip (.region [⟨some 40, none, .mov (.t 7)⟩, ⟨some 41, none, .bin .eql (.t 40) (.c (.int .i64 6))⟩, ⟨some 42, none, .mov (.t 41)⟩, ⟨some 43, some (42, true), .mov (.t 8)⟩, ⟨some 44, some (42, true), .un .not (.t 43)⟩, ⟨some 45, none, .pick (.t 42) (.t 44) (.c (.bool false))⟩, ⟨some 46, none, .mov (.t 45)⟩, ⟨some 47, some (46, true), .fieldAddr 6 (.t 1)⟩, ⟨some 48, some (46, true), .load1 (.t 47)⟩, ⟨some 49, some (46, true), .bin .neq (.t 48) (.c (.str []))⟩, ⟨some 50, none, .pick (.t 46) (.t 49) (.c (.bool false))⟩, ⟨some 28, none, .mov (.t 50)⟩])))
(.cond (.t 28) (.seq (.region [⟨some 2, none, .mov (.c (.bool false))⟩])
.ret) (.seq (.region [⟨some 52, none, .mov (.t 7)⟩, ⟨some 53, none, .bin .eql (.t 52) (.c (.int .i64 6))⟩, ⟨some 51, none, .mov (.t 53)⟩])
(.cond (.t 51) (.exit 1) .skip)))))
(.seq (.region [⟨some 54, none, .mov (.t 7)⟩, ⟨some 55, none, .callF 59 [(.t 1), (.t 54)]⟩, ⟨some 56, none, .nilCheck (.t 55)⟩, ⟨some 57, none, .load1 (.t 56)⟩, ⟨some 9, none, .mov (.t 57)⟩])
(.seq (.region [⟨some 58, none, .mov (.t 8)⟩, ⟨some 59, none, .mov (.t 58)⟩, ⟨some 60, some (59, true), .mov (.t 9)⟩, ⟨some 61, some (59, true), .bin .lss (.t 60) (.c (.int .i64 0))⟩, ⟨some 62, some (59, true), .mov (.t 61)⟩, ⟨some 63, some (62, false), .mov (.t 9)⟩, ⟨some 64, some (62, false), .mov (.t 7)⟩, ⟨some 65, some (62, false), .callF 80 [(.t 64)]⟩, ⟨some 66, some (62, false), .bin .gtr (.t 63) (.t 65)⟩, ⟨some 67, some (59, true), .pick (.t 62) (.c (.bool true)) (.t 66)⟩, ⟨some 68, none, .pick (.t 59) (.t 67) (.c (.bool false))⟩, ⟨some 69, none, .mov (.t 68)⟩, ⟨some 70, some (69, false), .mov (.t 8)⟩, ⟨some 71, some (69, false), .un .not (.t 70)⟩, ⟨some 72, some (69, false), .mov (.t 71)⟩, ⟨some 73, some (72, true), .mov (.t 9)⟩, ⟨some 74, some (72, true), .bin .neq (.t 73) (.c (.int .i64 0))⟩, ⟨some 75, some (69, false), .pick (.t 72) (.t 74) (.c (.bool false))⟩, ⟨some 76, none, .pick (.t 69) (.c (.bool true)) (.t 75)⟩])
(.cond (.t 76) (.seq (.region [⟨some 2, none, .mov (.c (.bool false))⟩])
.ret) .skip)))))))))))))
(.seq (.region [⟨some 77, none, .fieldAddr 0 (.t 1)⟩, ⟨some 78, none, .load1 (.t 77)⟩, ⟨some 79, none, .bin .neq (.t 78) (.c (.int .i64 1))⟩, ⟨some 80, none, .mov (.t 79)⟩, ⟨some 81, some (80, false), .fieldAddr 4 (.t 1)⟩, ⟨some 82, some (80, false), .load1 (.t 81)⟩, ⟨some 83, some (80, false), .bin .gtr (.t 82) (.c (.int .i64 0))⟩, ⟨some 84, none, .pick (.t 80) (.c (.bool true)) (.t 83)⟩, ⟨some 2, none, .mov (.t 84)⟩])
.ret)))))⟩
theorem ok56 : Fok 56 d56 := ⟨_, Tryz.func56, by kernel_rfl⟩
/- stint/verbs.fieldOf -/
def d57 : DFunc := ⟨1, [.tmp 2], (.seq (.region [⟨some 2, none, .mov (.c (.int .i64 0))⟩])
(.seq (.seq (.region [⟨some 3, none, .mov (.t 0)⟩])
(.block 0 (.seq (.region [⟨some 5, none, .bin .eql (.t 3) (.c (.int .i32 105))⟩, ⟨some 4, none, .mov (.t 5)⟩])
(.cond (.t 4) (.seq (.region [⟨some 2, none, .mov (.c (.int .i64 1))⟩])
.ret) (.seq (.region [⟨some 7, none, .bin .eql (.t 3) (.c (.int .i32 112))⟩, ⟨some 6, none, .mov (.t 7)⟩])
(.cond (.t 6) (.seq (.region [⟨some 2, none, .mov (.c (.int .i64 2))⟩])
.ret) (.seq (.region [⟨some 9, none, .bin .eql (.t 3) (.c (.int .i32 100))⟩, ⟨some 8, none, .mov (.t 9)⟩])
(.cond (.t 8) (.seq (.region [⟨some 2, none, .mov (.c (.int .i64 3))⟩])
.ret) (.seq (.region [⟨some 11, none, .bin .eql (.t 3) (.c (.int .i32 116))⟩, ⟨some 10, none, .mov (.t 11)⟩])
(.cond (.t 10) (.seq (.region [⟨some 2, none, .mov (.c (.int .i64 4))⟩])
.ret) (.seq (.region [⟨some 13, none, .bin .eql (.t 3) (.c (.int .i32 110))⟩, ⟨some 12, none, .mov (.t 13)⟩])
(.cond (.t 12) (.seq (.region [⟨some 2, none, .mov (.c (.int .i64 5))⟩])
.ret) .skip))))))))))))
(.seq (.region [⟨some 2, none, .mov (.c (.int .i64 6))⟩])
.ret)))⟩
theorem ok57 : Fok 57 d57 := ⟨_, Tryz.func57, by kernel_rfl⟩
/- stint/digits.Print -/
def d58 : DFunc := ⟨1, [.tmp 2], (.seq (.region [⟨some 2, none, .mov (.c (.str []))⟩])
(.seq (.seq (.region [⟨some 3, none, .mov (.t 0)⟩, ⟨some 4, none, .bin .lss (.t 3) (.c (.int .i64 0))⟩])
(.cond (.t 4) (.seq (.region [⟨some 2, none, .mov (.c (.str []))⟩])
.ret) .skip))
(.seq (.region [⟨some 5, none, .mov (.t 0)⟩, ⟨some 6, none, .callF 81 [(.t 5)]⟩, ⟨some 2, none, .mov (.t 6)⟩])
.ret)))⟩
theorem ok58 : Fok 58 d58 := ⟨_, Tryz.func58, by kernel_rfl⟩
/- stint/verbs.at -/
def d59 : DFunc := ⟨2, [.tmp 4], (.seq (.region [⟨some 4, none, .mov (.c .nilPtr)⟩])
(.seq (.seq (.region [⟨some 5, none, .mov (.t 1)⟩])
(.block 0 (.seq (.region [⟨some 7, none, .bin .eql (.t 5) (.c (.int .i64 1))⟩, ⟨some 6, none, .mov (.t 7)⟩])
(.cond (.t 6) (.seq (.region [⟨some 8, none, .mov (.t 0)⟩, ⟨some 9, none, .nilCheck (.t 8)⟩, ⟨some 10, none, .fieldAddr 1 (.t 9)⟩, ⟨some 4, none, .mov (.t 10)⟩])
.ret) (.seq (.region [⟨some 12, none, .bin .eql (.t 5) (.c (.int .i64 2))⟩, ⟨some 11, none, .mov (.t 12)⟩])
(.cond (.t 11) (.seq (.region [⟨some 13, none, .mov (.t 0)⟩, ⟨some 14, none, .nilCheck (.t 13)⟩, ⟨some 15, none, .fieldAddr 2 (.t 14)⟩, ⟨some 4, none, .mov (.t 15)⟩])
.ret) (.seq (.region [⟨some 17, none, .bin .eql (.t 5) (.c (.int .i64 3))⟩, ⟨some 16, none, .mov (.t 17)⟩])
(.cond (.t 16) (.seq (.region [⟨some 18, none, .mov (.t 0)⟩, ⟨some 19, none, .nilCheck (.t 18)⟩, ⟨some 20, none, .fieldAddr 3 (.t 19)⟩, ⟨some 4, none, .mov (.t 20)⟩])
.ret) (.seq (.region [⟨some 22, none, .bin .eql (.t 5) (.c (.int .i64 4))⟩, ⟨some 21, none, .mov (.t 22)⟩])
(.cond (.t 21) (.seq (.region [⟨some 23, none, .mov (.t 0)⟩, ⟨some 24, none, .nilCheck (.t 23)⟩, ⟨some 25, none, .fieldAddr 4 (.t 24)⟩, ⟨some 4, none, .mov (.t 25)⟩])
.ret) .skip))))))))))
(.seq (.region [⟨some 26, none, .mov (.t 0)⟩, ⟨some 27, none, .nilCheck (.t 26)⟩, ⟨some 28, none, .fieldAddr 5 (.t 27)⟩, ⟨some 4, none, .mov (.t 28)⟩])
.ret)))⟩
theorem ok59 : Fok 59 d59 := ⟨_, Tryz.func59, by kernel_rfl⟩
/- stint/verbs.forms -/
def d66 : DFunc := ⟨0, [.cell 0 52 true], (.seq (.region [⟨some 0, none, .alloc [(.str []), (.str []), (.str []), (.str []), (.str []), (.str []), (.str []), (.str []), (.str []), (.str []), (.str []), (.str []), (.str []), (.str []), (.str []), (.str []), (.str []), (.str []), (.str []), (.str []), (.str []), (.str []), (.str []), (.str []), (.str []), (.str []), (.str []), (.str []), (.str []), (.str []), (.str []), (.str []), (.str []), (.str []), (.str []), (.str []), (.str []), (.str []), (.str []), (.str []), (.str []), (.str []), (.str []), (.str []), (.str []), (.str []), (.str []), (.str []), (.str []), (.str []), (.str []), (.str [])]⟩])
(.seq (.region [⟨some 1, none, .build [(.str []), (.str [])] [(0, 1, (.c (.str [112, 117, 116]))), (1, 1, (.c (.str [112, 100, 116, 110])))]⟩, ⟨some 2, none, .build [(.str []), (.str [])] [(0, 1, (.c (.str [117, 115, 101]))), (1, 1, (.c (.str [117])))]⟩, ⟨some 3, none, .build [(.str []), (.str [])] [(0, 1, (.c (.str [114, 101, 115, 101, 114, 118, 101]))), (1, 1, (.c (.str [])))]⟩, ⟨some 4, none, .build [(.str []), (.str [])] [(0, 1, (.c (.str [114, 101, 115, 101, 114, 118, 101, 45, 119, 105, 116, 104, 45, 116, 105, 109, 101, 111, 117, 116]))), (1, 1, (.c (.str [110])))]⟩, ⟨some 5, none, .build [(.str []), (.str [])] [(0, 1, (.c (.str [114, 101, 115, 101, 114, 118, 101, 45, 106, 111, 98]))), (1, 1, (.c (.str [105])))]⟩, ⟨some 6, none, .build [(.str []), (.str [])] [(0, 1, (.c (.str [100, 101, 108, 101, 116, 101]))), (1, 1, (.c (.str [105])))]⟩, ⟨some 7, none, .build [(.str []), (.str [])] [(0, 1, (.c (.str [114, 101, 108, 101, 97, 115, 101]))), (1, 1, (.c (.str [105, 112, 100])))]⟩, ⟨some 8, none, .build [(.str []), (.str [])] [(0, 1, (.c (.str [98, 117, 114, 121]))), (1, 1, (.c (.str [105, 112])))]⟩, ⟨some 9, none, .build [(.str []), (.str [])] [(0, 1, (.c (.str [116, 111, 117, 99, 104]))), (1, 1, (.c (.str [105])))]⟩, ⟨some 10, none, .build [(.str []), (.str [])] [(0, 1, (.c (.str [119, 97, 116, 99, 104]))), (1, 1, (.c (.str [117])))]⟩, ⟨some 11, none, .build [(.str []), (.str [])] [(0, 1, (.c (.str [105, 103, 110, 111, 114, 101]))), (1, 1, (.c (.str [117])))]⟩, ⟨some 12, none, .build [(.str []), (.str [])] [(0, 1, (.c (.str [112, 101, 101, 107]))), (1, 1, (.c (.str [105])))]⟩, ⟨some 13, none, .build [(.str []), (.str [])] [(0, 1, (.c (.str [112, 101, 101, 107, 45, 114, 101, 97, 100, 121]))), (1, 1, (.c (.str [])))]⟩, ⟨some 14, none, .build [(.str []), (.str [])] [(0, 1, (.c (.str [112, 101, 101, 107, 45, 100, 101, 108, 97, 121, 101, 100]))), (1, 1, (.c (.str [])))]⟩, ⟨some 15, none, .build [(.str []), (.str [])] [(0, 1, (.c (.str [112, 101, 101, 107, 45, 98, 117, 114, 105, 101, 100]))), (1, 1, (.c (.str [])))]⟩, ⟨some 16, none, .build [(.str []), (.str [])] [(0, 1, (.c (.str [107, 105, 99, 107]))), (1, 1, (.c (.str [110])))]⟩, ⟨some 17, none, .build [(.str []), (.str [])] [(0, 1, (.c (.str [107, 105, 99, 107, 45, 106, 111, 98]))), (1, 1, (.c (.str [105])))]⟩, ⟨some 18, none, .build [(.str []), (.str [])] [(0, 1, (.c (.str [115, 116, 97, 116, 115, 45, 106, 111, 98]))), (1, 1, (.c (.str [105])))]⟩, ⟨some 19, none, .build [(.str []), (.str [])] [(0, 1, (.c (.str [115, 116, 97, 116, 115, 45, 116, 117, 98, 101]))), (1, 1, (.c (.str [117])))]⟩, ⟨some 20, none, .build [(.str []), (.str [])] [(0, 1, (.c (.str [115, 116, 97, 116, 115]))), (1, 1, (.c (.str [])))]⟩, ⟨some 21, none, .build [(.str []), (.str [])] [(0, 1, (.c (.str [108, 105, 115, 116, 45, 116, 117, 98, 101, 115]))), (1, 1, (.c (.str [])))]⟩, ⟨some 22, none, .build [(.str []), (.str [])] [(0, 1, (.c (.str [108, 105, 115, 116, 45, 116, 117, 98, 101, 45, 117, 115, 101, 100]))), (1, 1, (.c (.str [])))]⟩, ⟨some 23, none, .build [(.str []), (.str [])] [(0, 1, (.c (.str [108, 105, 115, 116, 45, 116, 117, 98, 101, 115, 45, 119, 97, 116, 99, 104, 101, 100]))), (1, 1, (.c (.str [])))]⟩, ⟨some 24, none, .build [(.str []), (.str [])] [(0, 1, (.c (.str [112, 97, 117, 115, 101, 45, 116, 117, 98, 101]))), (1, 1, (.c (.str [117, 110])))]⟩, ⟨some 25, none, .build [(.str []), (.str [])] [(0, 1, (.c (.str [113, 117, 105, 116]))), (1, 1, (.c (.str [])))]⟩, ⟨some 26, none, .build [(.str []), (.str []), (.str []), (.str []), (.str []), (.str []), (.str []), (.str []), (.str []), (.str []), (.str []), (.str []), (.str []), (.str []), (.str []), (.str []), (.str []), (.str []), (.str []), (.str []), (.str []), (.str []), (.str []), (.str []), (.str []), (.str []), (.str []), (.str []), (.str []), (.str []), (.str []), (.str []), (.str []), (.str []), (.str []), (.str []), (.str []), (.str []), (.str []), (.str []), (.str []), (.str []), (.str []), (.str []), (.str []), (.str []), (.str []), (.str []), (.str []), (.str []), (.str []), (.str [])] [(2, 2, (.t 1)), (4, 2, (.t 2)), (6, 2, (.t 3)), (8, 2, (.t 4)), (10, 2, (.t 5)), (12, 2, (.t 6)), (14, 2, (.t 7)), (16, 2, (.t 8)), (18, 2, (.t 9)), (20, 2, (.t 10)), (22, 2, (.t 11)), (24, 2, (.t 12)), (26, 2, (.t 13)), (28, 2, (.t 14)), (30, 2, (.t 15)), (32, 2, (.t 16)), (34, 2, (.t 17)), (36, 2, (.t 18)), (38, 2, (.t 19)), (40, 2, (.t 20)), (42, 2, (.t 21)), (44, 2, (.t 22)), (46, 2, (.t 23)), (48, 2, (.t 24)), (50, 2, (.t 25))]⟩, ⟨none, none, .store 52 (.t 0) (.t 26)⟩])
.ret))⟩
theorem ok66 : Fok 66 d66 := ⟨_, Tryz.func66, by kernel_rfl⟩
/- stint/record.CheckConfig -/
def d67 : DFunc := ⟨1, [.tmp 2], (.seq (.region [⟨some 1, none, .box (.t 0)⟩, ⟨some 2, none, .mov (.c (.int .i64 0))⟩])
(.seq (.region [⟨some 4, none, .fieldAddr 0 (.t 1)⟩, ⟨some 5, none, .load1 (.t 4)⟩, ⟨some 6, none, .callF 85 [(.t 5), (.c (.int .i64 1)), (.c (.int .i64 65535))]⟩, ⟨some 7, none, .mov (.t 6)⟩, ⟨some 8, some (7, true), .fieldAddr 1 (.t 1)⟩, ⟨some 9, some (7, true), .load1 (.t 8)⟩, ⟨some 10, some (7, true), .callF 85 [(.t 9), (.c (.int .i64 128)), (.c (.int .i64 1048576))]⟩, ⟨some 11, none, .pick (.t 7) (.t 10) (.c (.bool false))⟩, ⟨some 12, none, .mov (.t 11)⟩, ⟨some 13, some (12, true), .fieldAddr 2 (.t 1)⟩, ⟨some 14, some (12, true), .load1 (.t 13)⟩, ⟨some 15, some (12, true), .callF 85 [(.t 14), (.c (.int .i64 1024)), (.c (.int .i64 67108864))]⟩, ⟨some 16, none, .pick (.t 12) (.t 15) (.c (.bool false))⟩, ⟨some 17, none, .mov (.t 16)⟩, ⟨some 18, some (17, true), .fieldAddr 1 (.t 1)⟩, ⟨some 19, some (17, true), .load1 (.t 18)⟩, ⟨some 20, some (17, true), .bin .mul (.c (.int .i64 4)) (.t 19)⟩, ⟨some 21, some (17, true), .fieldAddr 2 (.t 1)⟩, ⟨some 22, some (17, true), .load1 (.t 21)⟩, ⟨some 23, some (17, true), .bin .leq (.t 20) (.t 22)⟩, ⟨some 24, none, .pick (.t 17) (.t 23) (.c (.bool false))⟩, ⟨some 3, none, .mov (.t 24)⟩])
(.seq (.seq (.region [⟨some 25, none, .mov (.t 3)⟩, ⟨some 26, none, .un .not (.t 25)⟩])
(.cond (.t 26) (.seq (.region [⟨some 2, none, .mov (.c (.int .i64 103))⟩])
.ret) .skip))
(.seq (.region [⟨some 2, none, .mov (.c (.int .i64 0))⟩])
.ret))))⟩
theorem ok67 : Fok 67 d67 := ⟨_, Tryz.func67, by kernel_rfl⟩
/- stint/yard.New -/
def d68 : DFunc := ⟨0, [.tmp 0], (.seq (.region [⟨some 0, none, .mov (.c .nilPtr)⟩])
(.seq (.region [⟨some 1, none, .mkMap⟩, ⟨some 2, none, .mkMap⟩, ⟨some 3, none, .callF 86 []⟩, ⟨some 4, none, .callF 86 []⟩, ⟨some 5, none, .mkMap⟩, ⟨some 6, none, .build [.nilMap, .nilMap, .nilPtr, .nilPtr, .nilMap, (.int .i64 0), (.int .i64 0), (.int .i64 0), (.int .i64 0), (.int .i64 0)] [(0, 1, (.t 1)), (1, 1, (.t 2)), (2, 1, (.t 3)), (3, 1, (.t 4)), (4, 1, (.t 5))]⟩, ⟨some 7, none, .box (.t 6)⟩, ⟨some 0, none, .mov (.t 7)⟩])
.ret))⟩
theorem ok68 : Fok 68 d68 := ⟨_, Tryz.func68, by kernel_rfl⟩
/- stint/seats.New -/
def d69 : DFunc := ⟨0, [.tmp 0], (.seq (.region [⟨some 0, none, .mov (.c .nilPtr)⟩])
(.seq (.region [⟨some 1, none, .mkMap⟩, ⟨some 2, none, .callF 87 []⟩, ⟨some 3, none, .build [.nilMap, .nilPtr] [(0, 1, (.t 1)), (1, 1, (.t 2))]⟩, ⟨some 4, none, .box (.t 3)⟩, ⟨some 0, none, .mov (.t 4)⟩])
.ret))⟩
theorem ok69 : Fok 69 d69 := ⟨_, Tryz.func69, by kernel_rfl⟩
/- (*stint/ledger.Ledger).begin -/
def d70 : DFunc := ⟨2, [], (.seq (.region [⟨some 4, none, .mov (.t 0)⟩, ⟨some 5, none, .mov (.t 0)⟩, ⟨some 6, none, .nilCheck (.t 5)⟩, ⟨some 7, none, .fieldAddr 8 (.t 6)⟩, ⟨some 8, none, .load1 (.t 7)⟩, ⟨some 9, none, .mov (.t 1)⟩, ⟨some 10, none, .build [(.int .i64 0), (.int .i64 0), .nilSlice, (.int .i64 0)] [(0, 1, (.c (.int .i64 1))), (1, 1, (.t 9))]⟩, ⟨some 11, none, .buildSlice 1 [(.int .i64 0), (.int .i64 0), .nilSlice, (.int .i64 0)] [(0, 4, (.t 10))]⟩, ⟨some 12, none, .append 4 48 [] (.t 8) (.t 11)⟩, ⟨some 13, none, .nilCheck (.t 4)⟩, ⟨some 14, none, .fieldAddr 8 (.t 13)⟩, ⟨none, none, .store 1 (.t 14) (.t 12)⟩])
(.seq (.region [⟨some 15, none, .mov (.t 0)⟩, ⟨some 16, none, .mov (.t 0)⟩, ⟨some 17, none, .nilCheck (.t 16)⟩, ⟨some 18, none, .fieldAddr 5 (.t 17)⟩, ⟨some 19, none, .load1 (.t 18)⟩, ⟨some 20, none, .mov (.t 1)⟩, ⟨some 21, none, .build [(.int .i64 0), (.int .i64 0)] [(0, 1, (.t 20))]⟩, ⟨some 22, none, .buildSlice 1 [(.int .i64 0), (.int .i64 0)] [(0, 2, (.t 21))]⟩, ⟨some 23, none, .append 2 16 [] (.t 19) (.t 22)⟩, ⟨some 24, none, .nilCheck (.t 15)⟩, ⟨some 25, none, .fieldAddr 5 (.t 24)⟩, ⟨none, none, .store 1 (.t 25) (.t 23)⟩])
(.region [⟨some 26, none, .mov (.t 0)⟩, ⟨some 27, none, .callF 88 [(.t 26)]⟩])))⟩
theorem ok70 : Fok 70 d70 := ⟨_, Tryz.func70, by kernel_rfl⟩
/- (*stint/ledger.Ledger).sync -/
def d71 : DFunc := ⟨1, [], (.draw [(⟨some 2, none, .mov (.t 0)⟩, .pure), (⟨some 3, none, .mov (.t 0)⟩, .pure), (⟨some 4, none, .nilCheck (.t 3)⟩, .pure), (⟨some 5, none, .fieldAddr 8 (.t 4)⟩, .pure), (⟨some 6, none, .load1 (.t 5)⟩, .read [15, 12]), (⟨some 7, none, .mov (.t 0)⟩, .pure), (⟨some 8, none, .callF 89 [(.t 7)]⟩, .alone 6), (⟨some 9, none, .nilCheck (.t 8)⟩, .pure), (⟨some 10, none, .fieldAddr 0 (.t 9)⟩, .pure), (⟨some 11, none, .load1 (.t 10)⟩, .read [15, 12, 11, 10]), (⟨some 12, none, .build [(.int .i64 0), (.int .i64 0), .nilSlice, (.int .i64 0)] [(0, 1, (.c (.int .i64 3))), (1, 1, (.t 11))]⟩, .alone 10), (⟨some 13, none, .buildSlice 1 [(.int .i64 0), (.int .i64 0), .nilSlice, (.int .i64 0)] [(0, 4, (.t 12))]⟩, .alone 11), (⟨some 14, none, .append 4 48 [] (.t 6) (.t 13)⟩, .alone 12), (⟨some 15, none, .nilCheck (.t 2)⟩, .pure), (⟨some 16, none, .fieldAddr 8 (.t 15)⟩, .pure), (⟨none, none, .store 1 (.t 16) (.t 14)⟩, .alone 15)])⟩
theorem ok71 : Fok 71 d71 := ⟨_, Tryz.func71, by kernel_rfl⟩
/- (*stint/ledger.Ledger).told -/
def d72 : DFunc := ⟨1, [.tmp 2], (.seq (.region [⟨some 2, none, .mov (.c .nilSlice)⟩])
(.seq (.region [⟨some 4, none, .mov (.t 0)⟩, ⟨some 5, none, .nilCheck (.t 4)⟩, ⟨some 6, none, .fieldAddr 8 (.t 5)⟩, ⟨some 7, none, .load1 (.t 6)⟩, ⟨some 3, none, .mov (.t 7)⟩])
(.seq (.region [⟨some 8, none, .mov (.t 0)⟩, ⟨some 9, none, .nilCheck (.t 8)⟩, ⟨some 10, none, .fieldAddr 8 (.t 9)⟩, ⟨none, none, .store 1 (.t 10) (.c .nilSlice)⟩])
(.seq (.region [⟨some 11, none, .mov (.t 3)⟩, ⟨some 2, none, .mov (.t 11)⟩])
.ret))))⟩
theorem ok72 : Fok 72 d72 := ⟨_, Tryz.func72, by kernel_rfl⟩
/- (*stint/engine.Engine).Waits -/
def d73 : DFunc := ⟨2, [.tmp 4], (.seq (.region [⟨some 4, none, .mov (.c (.bool false))⟩])
(.seq (.region [⟨some 8, none, .mov (.t 0)⟩, ⟨some 9, none, .nilCheck (.t 8)⟩, ⟨some 10, none, .fieldAddr 7 (.t 9)⟩, ⟨some 11, none, .load1 (.t 10)⟩, ⟨some 12, none, .mov (.t 1)⟩, ⟨some 13, none, .callF 90 [(.t 11), (.t 12)]⟩, ⟨some 7, none, .mov (.t 13)⟩, ⟨some 14, none, .extract (.t 7) 0⟩, ⟨some 15, none, .extract (.t 7) 1⟩, ⟨some 5, none, .alloc [(.int .i64 0), (.str []), .nilSlice, (.bool false), (.int .i64 0), (.bool false), (.bool false)]⟩, ⟨none, none, .store 7 (.t 5) (.t 14)⟩, ⟨some 6, none, .mov (.t 15)⟩])
(.seq (.region [⟨some 16, none, .fieldAddr 3 (.t 5)⟩, ⟨some 17, none, .load1 (.t 16)⟩, ⟨some 4, none, .mov (.t 17)⟩])
.ret)))⟩
theorem ok73 : Fok 73 d73 := ⟨_, Tryz.func73, by kernel_rfl⟩
/- (*stint/house.guest).command -/
def d74 : DFunc := ⟨1, [.tmp 2], (.seq (.region [⟨some 2, none, .mov (.c .nilPtr)⟩])
(.block 0 (.loop (.block 1 (.seq (.region [⟨some 8, none, .mov (.t 0)⟩, ⟨some 9, none, .callF 91 [(.t 8)]⟩, ⟨some 7, none, .mov (.t 9)⟩, ⟨some 10, none, .extract (.t 7) 0⟩, ⟨some 11, none, .extract (.t 7) 1⟩, ⟨some 3, none, .alloc [(.int .i64 0), (.str []), .nilSlice]⟩, ⟨none, none, .store 3 (.t 3) (.t 10)⟩, ⟨some 4, none, .mov (.t 11)⟩])
(.seq (.seq (.region [⟨some 12, none, .mov (.t 4)⟩, ⟨some 13, none, .un .not (.t 12)⟩])
(.cond (.t 13) (.seq (.region [⟨some 2, none, .mov (.c .nilPtr)⟩])
.ret) .skip))
(.seq (.seq (.region [⟨some 14, none, .fieldAddr 0 (.t 3)⟩, ⟨some 15, none, .load1 (.t 14)⟩])
(.block 2 (.seq (.region [⟨some 17, none, .bin .eql (.t 15) (.c (.int .i64 2))⟩, ⟨some 16, none, .mov (.t 17)⟩])
(.cond (.t 16) (.seq (.region [⟨some 18, none, .mov (.t 0)⟩, ⟨some 19, none, .build [(.int .i64 0), (.int .i64 0), (.int .i64 0), (.int .i64 0), (.int .i64 0), (.int .i64 0), (.str []), .nilSlice] []⟩, ⟨some 20, none, .callF 92 [(.t 18), (.c (.int .i64 19)), (.t 19)]⟩, ⟨some 2, none, .mov (.t 20)⟩])
.ret) (.seq (.region [⟨some 22, none, .bin .eql (.t 15) (.c (.int .i64 4))⟩, ⟨some 21, none, .mov (.t 22)⟩])
(.cond (.t 21) (.seq (.region [⟨some 23, none, .mov (.t 0)⟩, ⟨some 24, none, .build [(.int .i64 0), (.int .i64 0), (.int .i64 0), (.int .i64 0), (.int .i64 0), (.int .i64 0), (.str []), .nilSlice] []⟩, ⟨some 25, none, .callF 92 [(.t 23), (.c (.int .i64 22)), (.t 24)]⟩, ⟨some 2, none, .mov (.t 25)⟩])
.ret) (.seq (.region [⟨some 27, none, .bin .eql (.t 15) (.c (.int .i64 5))⟩, ⟨some 26, none, .mov (.t 27)⟩])
(.cond (.t 26) (.seq (.region [⟨some 28, none, .mov (.t 0)⟩, ⟨some 29, none, .build [(.int .i64 0), (.int .i64 0), (.int .i64 0), (.int .i64 0), (.int .i64 0), (.int .i64 0), (.str []), .nilSlice] []⟩, ⟨some 30, none, .callF 92 [(.t 28), (.c (.int .i64 21)), (.t 29)]⟩, ⟨some 2, none, .mov (.t 30)⟩])
.ret) (.seq (.region [⟨some 32, none, .bin .eql (.t 15) (.c (.int .i64 3))⟩, ⟨some 31, none, .mov (.t 32)⟩])
(.cond (.t 31) (.seq (.region [⟨some 33, none, .mov (.t 0)⟩, ⟨some 34, none, .fieldAddr 2 (.t 3)⟩, ⟨some 35, none, .load1 (.t 34)⟩, ⟨some 36, none, .nilCheck (.t 33)⟩, ⟨some 37, none, .fieldAddr 6 (.t 36)⟩, ⟨some 38, none, .fieldAddr 7 (.t 37)⟩, ⟨none, none, .store 1 (.t 38) (.t 35)⟩])
(.seq (.region [⟨some 39, none, .mov (.t 0)⟩, ⟨some 40, none, .mov (.t 0)⟩, ⟨some 41, none, .nilCheck (.t 40)⟩, ⟨some 42, none, .fieldAddr 6 (.t 41)⟩, ⟨some 43, none, .loadN 8 (.t 42)⟩, ⟨some 44, none, .callF 92 [(.t 39), (.c (.int .i64 0)), (.t 43)]⟩, ⟨some 2, none, .mov (.t 44)⟩])
.ret)) .skip))))))))))
(.seq (.region [⟨some 46, none, .fieldAddr 1 (.t 3)⟩, ⟨some 47, none, .load1 (.t 46)⟩, ⟨some 48, none, .callF 93 [(.t 47)]⟩, ⟨some 45, none, .mov (.t 48)⟩, ⟨some 49, none, .extract (.t 45) 0⟩, ⟨some 50, none, .extract (.t 45) 1⟩, ⟨some 5, none, .alloc [(.int .i64 0), (.int .i64 0), (.int .i64 0), (.int .i64 0), (.int .i64 0), (.int .i64 0), (.str []), .nilSlice]⟩, ⟨none, none, .store 8 (.t 5) (.t 49)⟩, ⟨some 6, none, .mov (.t 50)⟩])
(.seq (.block 3 (.seq (.region [⟨some 52, none, .mov (.t 6)⟩, ⟨some 53, none, .bin .eql (.t 52) (.c (.int .i64 70))⟩, ⟨some 51, none, .mov (.t 53)⟩])
(.cond (.t 51) (.seq (.region [⟨some 54, none, .mov (.t 0)⟩, ⟨some 55, none, .build [(.int .i64 0), (.int .i64 0), (.int .i64 0), (.int .i64 0), (.int .i64 0), (.int .i64 0), (.str []), .nilSlice] []⟩, ⟨some 56, none, .callF 92 [(.t 54), (.c (.int .i64 20)), (.t 55)]⟩, ⟨some 2, none, .mov (.t 56)⟩])
.ret) (.seq (.region [⟨some 58, none, .mov (.t 6)⟩, ⟨some 59, none, .bin .neq (.t 58) (.c (.int .i64 0))⟩, ⟨some 57, none, .mov (.t 59)⟩])
(.cond (.t 57) (.seq (.region [⟨some 60, none, .mov (.t 0)⟩, ⟨some 61, none, .build [(.int .i64 0), (.int .i64 0), (.int .i64 0), (.int .i64 0), (.int .i64 0), (.int .i64 0), (.str []), .nilSlice] []⟩, ⟨some 62, none, .callF 92 [(.t 60), (.c (.int .i64 19)), (.t 61)]⟩, ⟨some 2, none, .mov (.t 62)⟩])
.ret) (.seq (.region [⟨some 64, none, .fieldAddr 0 (.t 5)⟩, ⟨some 65, none, .load1 (.t 64)⟩, ⟨some 66, none, .bin .neq (.t 65) (.c (.int .i64 1))⟩, ⟨some 63, none, .mov (.t 66)⟩])
(.cond (.t 63) (.seq (.region [⟨some 67, none, .mov (.t 0)⟩, ⟨some 68, none, .loadN 8 (.t 5)⟩, ⟨some 69, none, .callF 92 [(.t 67), (.c (.int .i64 0)), (.t 68)]⟩, ⟨some 2, none, .mov (.t 69)⟩])
.ret) .skip)))))))
(.seq (.region [⟨some 70, none, .mov (.t 0)⟩, ⟨some 71, none, .loadN 8 (.t 5)⟩, ⟨some 72, none, .nilCheck (.t 70)⟩, ⟨some 73, none, .fieldAddr 6 (.t 72)⟩, ⟨none, none, .store 8 (.t 73) (.t 71)⟩])
(.draw [(⟨some 74, none, .mov (.t 0)⟩, .pure), (⟨some 75, none, .nilCheck (.t 74)⟩, .pure), (⟨some 76, none, .fieldAddr 0 (.t 75)⟩, .pure), (⟨some 77, none, .load1 (.t 76)⟩, .read [6]), (⟨some 78, none, .fieldAddr 5 (.t 5)⟩, .pure), (⟨some 79, none, .load1 (.t 78)⟩, .read [6]), (⟨some 80, none, .callF 94 [(.t 77), (.t 79)]⟩, .alone 6)])))))))))))⟩
theorem ok74 : Fok 74 d74 := ⟨_, Tryz.func74, by kernel_rfl⟩
/- stint/house.says -/
def d75 : DFunc := ⟨1, [.tmp 2], (.seq (.region [⟨some 2, none, .mov (.c .nilSlice)⟩])
(.seq (.region [⟨some 8, none, .mov (.t 0)⟩, ⟨some 9, none, .lenSl (.t 8)⟩, ⟨some 10, none, .mkSlice [(.int .i64 0), (.int .i64 0), (.int .i64 0), .nilSlice, (.int .i64 0), (.int .i64 0), (.int .i64 0), (.int .i64 0), (.int .i64 0), (.str []), .nilSlice, .nilSlice] 12 152 (.c (.int .i64 0)) (.t 9)⟩, ⟨some 3, none, .mov (.t 10)⟩])
(.seq (.seq (.region [⟨some 11, none, .mov (.t 0)⟩, ⟨some 12, none, .lenSl (.t 11)⟩, ⟨some 13, none, .mov (.c (.int .i64 0))⟩])
(.block 0 (.loop (.seq (.region [⟨some 14, none, .bin .lss (.t 13) (.t 12)⟩])
(.seq (.cond (.t 14) .skip (.exit 0))
(.seq (.block 1 (.seq (.region [⟨some 15, none, .indexAddrS 12 (.t 11) (.t 13)⟩, ⟨some 16, none, .loadN 12 (.t 15)⟩, ⟨some 5, none, .alloc [(.int .i64 0), (.int .i64 0), (.int .i64 0), .nilSlice, (.int .i64 0), (.int .i64 0), (.int .i64 0), (.int .i64 0), (.int .i64 0), (.str []), .nilSlice, .nilSlice]⟩, ⟨none, none, .store 12 (.t 5) (.t 16)⟩])
(.seq (.seq (.region [⟨some 17, none, .fieldAddr 0 (.t 5)⟩, ⟨some 18, none, .load1 (.t 17)⟩, ⟨some 19, none, .bin .eql (.t 18) (.c (.int .i64 2))⟩])
(.cond (.t 19) (.seq (.region [⟨some 21, none, .fieldAddr 6 (.t 5)⟩, ⟨some 22, none, .loadN 5 (.t 21)⟩, ⟨some 23, none, .callF 95 [(.t 22)]⟩, ⟨some 20, none, .mov (.t 23)⟩, ⟨some 24, none, .extract (.t 20) 0⟩, ⟨some 25, none, .extract (.t 20) 1⟩, ⟨some 6, none, .mov (.t 24)⟩, ⟨some 7, none, .mov (.t 25)⟩])
(.region [⟨some 26, none, .fieldAddr 5 (.t 5)⟩, ⟨some 27, none, .load1 (.t 26)⟩, ⟨some 28, none, .mov (.t 6)⟩, ⟨some 29, none, .build [(.int .i64 0), (.int .i64 0), (.int .i64 0), .nilSlice, (.int .i64 0), (.int .i64 0), (.int .i64 0), (.int .i64 0), (.int .i64 0), (.str []), .nilSlice, .nilSlice] [(0, 1, (.c (.int .i64 2))), (5, 1, (.t 27)), (11, 1, (.t 28))]⟩, ⟨none, none, .store 12 (.t 5) (.t 29)⟩])) .skip))
(.region [⟨some 30, none, .mov (.t 3)⟩, ⟨some 31, none, .loadN 12 (.t 5)⟩, ⟨some 32, none, .buildSlice 1 [(.int .i64 0), (.int .i64 0), (.int .i64 0), .nilSlice, (.int .i64 0), (.int .i64 0), (.int .i64 0), (.int .i64 0), (.int .i64 0), (.str []), .nilSlice, .nilSlice] [(0, 12, (.t 31))]⟩, ⟨some 33, none, .append 12 152 [] (.t 30) (.t 32)⟩, ⟨some 3, none, .mov (.t 33)⟩]))))
(.region [⟨some 34, none, .bin .add (.t 13) (.c (.int .i64 1))⟩, ⟨some 13, none, .mov (.t 34)⟩])))))))
(.seq (.region [⟨some 35, none, .mov (.t 3)⟩, ⟨some 2, none, .mov (.t 35)⟩])
.ret))))⟩
theorem ok75 : Fok 75 d75 := ⟨_, Tryz.func75, by kernel_rfl⟩
/- (*stint/engine.Engine).Do -/
def d77 : DFunc := ⟨3, [.tmp 6, .tmp 7], (.seq (.region [⟨some 5, none, .box (.t 2)⟩, ⟨some 6, none, .mov (.c .nilSlice)⟩, ⟨some 7, none, .mov (.c (.int .i64 0))⟩])
(.seq (.region [⟨some 12, none, .mov (.t 0)⟩, ⟨some 13, none, .nilCheck (.t 12)⟩, ⟨some 14, none, .fieldAddr 7 (.t 13)⟩, ⟨some 15, none, .load1 (.t 14)⟩, ⟨some 16, none, .mov (.t 1)⟩, ⟨some 17, none, .callF 90 [(.t 15), (.t 16)]⟩, ⟨some 11, none, .mov (.t 17)⟩, ⟨some 18, none, .extract (.t 11) 0⟩, ⟨some 19, none, .extract (.t 11) 1⟩, ⟨some 8, none, .alloc [(.int .i64 0), (.str []), .nilSlice, (.bool false), (.int .i64 0), (.bool false), (.bool false)]⟩, ⟨none, none, .store 7 (.t 8) (.t 18)⟩, ⟨some 9, none, .mov (.t 19)⟩])
(.seq (.block 0 (.seq (.region [⟨some 21, none, .mov (.t 9)⟩, ⟨some 22, none, .un .not (.t 21)⟩, ⟨some 20, none, .mov (.t 22)⟩])
(.cond (.t 20) (.seq (.region [⟨some 6, none, .mov (.c .nilSlice)⟩, ⟨some 7, none, .mov (.c (.int .i64 171))⟩])
.ret) (.seq (.region [⟨some 24, none, .fieldAddr 3 (.t 8)⟩, ⟨some 25, none, .load1 (.t 24)⟩, ⟨some 23, none, .mov (.t 25)⟩])
(.cond (.t 23) (.seq (.region [⟨some 6, none, .mov (.c .nilSlice)⟩, ⟨some 7, none, .mov (.c (.int .i64 172))⟩])
.ret) (.seq (.draw [(⟨some 27, none, .loadN 8 (.t 5)⟩, .read [1]), (⟨some 28, none, .callF 42 [(.t 27)]⟩, .alone 1), (⟨some 29, none, .bin .neq (.t 28) (.c (.int .i64 0))⟩, .pure), (⟨some 30, none, .mov (.t 29)⟩, .pure), (⟨some 31, some (30, false), .fieldAddr 0 (.t 5)⟩, .pure), (⟨some 32, some (30, false), .load1 (.t 31)⟩, .read []), (⟨some 33, some (30, false), .bin .eql (.t 32) (.c (.int .i64 25))⟩, .pure), (⟨some 34, none, .pick (.t 30) (.c (.bool true)) (.t 33)⟩, .pure), (⟨some 35, none, .mov (.t 34)⟩, .pure), (⟨some 36, some (35, false), .fieldAddr 7 (.t 5)⟩, .pure), (⟨some 37, some (35, false), .load1 (.t 36)⟩, .read []), (⟨some 38, some (35, false), .lenSl (.t 37)⟩, .pure), (⟨some 39, some (35, false), .mov (.t 0)⟩, .pure), (⟨some 40, some (35, false), .nilCheck (.t 39)⟩, .pure), (⟨some 41, some (35, false), .fieldAddr 0 (.t 40)⟩, .pure), (⟨some 42, some (35, false), .fieldAddr 0 (.t 41)⟩, .pure), (⟨some 43, some (35, false), .load1 (.t 42)⟩, .read []), (⟨some 44, some (35, false), .bin .gtr (.t 38) (.t 43)⟩, .pure), (⟨some 45, none, .pick (.t 35) (.c (.bool true)) (.t 44)⟩, .pure), (⟨some 26, none, .mov (.t 45)⟩, .pure)])
(.cond (.t 26) (.seq (.region [⟨some 6, none, .mov (.c .nilSlice)⟩, ⟨some 7, none, .mov (.c (.int .i64 173))⟩])
.ret) .skip)))))))
(.seq (.draw [(⟨some 46, none, .mov (.t 0)⟩, .pure), (⟨some 47, none, .fieldAddr 0 (.t 5)⟩, .pure), (⟨some 48, none, .load1 (.t 47)⟩, .read [11]), (⟨some 49, none, .nilCheck (.t 46)⟩, .pure), (⟨some 50, none, .fieldAddr 9 (.t 49)⟩, .pure), (⟨some 51, none, .indexAddrA 26 1 (.t 50) (.t 48)⟩, .pure), (⟨some 52, none, .load1 (.t 51)⟩, .read [11]), (⟨some 53, none, .bin .add (.t 52) (.c (.int .i64 1))⟩, .pure), (⟨some 54, none, .nilCheck (.t 46)⟩, .pure), (⟨some 55, none, .fieldAddr 9 (.t 54)⟩, .pure), (⟨some 56, none, .indexAddrA 26 1 (.t 55) (.t 48)⟩, .pure), (⟨none, none, .store 1 (.t 56) (.t 53)⟩, .alone 11)])
(.seq (.region [⟨some 57, none, .loadN 8 (.t 5)⟩, ⟨some 58, none, .callF 103 [(.t 57)]⟩, ⟨some 10, none, .mov (.t 58)⟩])
(.seq (.seq (.region [⟨some 59, none, .mov (.t 10)⟩])
(.block 1 (.seq (.region [⟨some 60, none, .assertC (.t 59) 249 true (.agg [(.int .i64 0), (.int .i64 0), (.int .i64 0), (.int .i64 0), (.int .i64 0), (.int .i64 0), (.str []), .nilSlice])⟩, ⟨some 61, none, .extract (.t 60) 1⟩, ⟨some 62, none, .extract (.t 60) 0⟩])
(.cond (.t 61) (.region [⟨some 63, none, .mov (.t 0)⟩, ⟨some 64, none, .nilCheck (.t 63)⟩, ⟨some 65, none, .fieldAddr 7 (.t 64)⟩, ⟨some 66, none, .load1 (.t 65)⟩, ⟨some 67, none, .mov (.t 1)⟩, ⟨some 68, none, .callF 104 [(.t 66), (.t 67), (.c (.bool true)), (.c (.bool false))]⟩]) (.seq (.region [⟨some 69, none, .assertC (.t 59) 251 true (.agg [(.int .i64 0), (.int .i64 0), (.int .i64 0), (.int .i64 0), (.int .i64 0), (.int .i64 0), (.str []), .nilSlice])⟩, ⟨some 70, none, .extract (.t 69) 1⟩, ⟨some 71, none, .extract (.t 69) 0⟩, ⟨some 72, none, .assertC (.t 59) 252 true (.agg [(.int .i64 0), (.int .i64 0), (.int .i64 0), (.int .i64 0), (.int .i64 0), (.int .i64 0), (.str []), .nilSlice])⟩, ⟨some 73, none, .extract (.t 72) 1⟩, ⟨some 74, none, .extract (.t 72) 0⟩, ⟨some 75, none, .pick (.t 70) (.c (.bool true)) (.t 73)⟩])
(.cond (.t 75) (.region [⟨some 76, none, .mov (.t 0)⟩, ⟨some 77, none, .nilCheck (.t 76)⟩, ⟨some 78, none, .fieldAddr 7 (.t 77)⟩, ⟨some 79, none, .load1 (.t 78)⟩, ⟨some 80, none, .mov (.t 1)⟩, ⟨some 81, none, .callF 104 [(.t 79), (.t 80), (.c (.bool false)), (.c (.bool true))]⟩]) .skip))))))
(.seq (.region [⟨some 82, none, .mov (.t 10)⟩, ⟨some 83, none, .mov (.t 0)⟩, ⟨some 84, none, .mov (.t 1)⟩, ⟨some 85, none, .callM (.t 82) "stint/engine.do" [(.t 83), (.t 84)]⟩])
(.seq (.region [⟨some 86, none, .mov (.t 0)⟩, ⟨some 87, none, .callF 102 [(.t 86)]⟩, ⟨some 6, none, .mov (.t 87)⟩, ⟨some 7, none, .mov (.c (.int .i64 0))⟩])
.ret))))))))⟩
theorem ok77 : Fok 77 d77 := ⟨_, Tryz.func77, by kernel_rfl⟩
/- stint/verbs.hasRune -/
def d78 : DFunc := ⟨2, [.tmp 4], (.seq (.region [⟨some 4, none, .mov (.c (.bool false))⟩])
(.seq (.seq (.region [⟨some 7, none, .mov (.t 0)⟩, ⟨some 8, none, .rangeStr (.t 7)⟩])
(.block 0 (.loop (.seq (.region [⟨some 9, none, .nextStr (.t 8)⟩, ⟨some 10, none, .extract (.t 9) 0⟩])
(.seq (.cond (.t 10) .skip (.exit 0))
(.block 1 (.seq (.region [⟨some 11, none, .extract (.t 9) 2⟩, ⟨some 6, none, .mov (.t 11)⟩])
(.seq (.region [⟨some 12, none, .mov (.t 6)⟩, ⟨some 13, none, .mov (.t 1)⟩, ⟨some 14, none, .bin .eql (.t 12) (.t 13)⟩])
(.cond (.t 14) (.seq (.region [⟨some 4, none, .mov (.c (.bool true))⟩])
.ret) .skip)))))))))
(.seq (.region [⟨some 4, none, .mov (.c (.bool false))⟩])
.ret)))⟩
theorem ok78 : Fok 78 d78 := ⟨_, Tryz.func78, by kernel_rfl⟩
/- stint/names.Valid -/
def d79 : DFunc := ⟨1, [.tmp 2], (.seq (.region [⟨some 2, none, .mov (.c (.bool false))⟩])
(.seq (.seq (.region [⟨some 4, none, .mov (.t 0)⟩, ⟨some 5, none, .lenStr (.t 4)⟩, ⟨some 6, none, .bin .lss (.t 5) (.c (.int .i64 1))⟩, ⟨some 7, none, .mov (.t 6)⟩, ⟨some 8, some (7, false), .mov (.t 0)⟩, ⟨some 9, some (7, false), .lenStr (.t 8)⟩, ⟨some 10, some (7, false), .bin .gtr (.t 9) (.c (.int .i64 200))⟩, ⟨some 11, none, .pick (.t 7) (.c (.bool true)) (.t 10)⟩, ⟨some 12, none, .mov (.t 11)⟩, ⟨some 13, some (12, false), .mov (.t 0)⟩, ⟨some 14, some (12, false), .indexStr (.t 13) (.c (.int .i64 0))⟩, ⟨some 15, some (12, false), .bin .eql (.t 14) (.c (.int .u8 45))⟩, ⟨some 16, none, .pick (.t 12) (.c (.bool true)) (.t 15)⟩])
(.cond (.t 16) (.seq (.region [⟨some 2, none, .mov (.c (.bool false))⟩])
.ret) .skip))
(.seq (.seq (.region [⟨some 17, none, .mov (.t 0)⟩, ⟨some 18, none, .lenStr (.t 17)⟩, ⟨some 19, none, .mov (.c (.int .i64 0))⟩])
(.block 0 (.loop (.seq (.region [⟨some 20, none, .bin .lss (.t 19) (.t 18)⟩])
(.seq (.cond (.t 20) .skip (.exit 0))
(.seq (.block 1 (.seq (.region [⟨some 21, none, .mov (.t 19)⟩, ⟨some 3, none, .mov (.t 21)⟩])
(.seq (.region [⟨some 22, none, .mov (.t 0)⟩, ⟨some 23, none, .mov (.t 3)⟩, ⟨some 24, none, .indexStr (.t 22) (.t 23)⟩, ⟨some 25, none, .callF 105 [(.t 24)]⟩, ⟨some 26, none, .un .not (.t 25)⟩])
(.cond (.t 26) (.seq (.region [⟨some 2, none, .mov (.c (.bool false))⟩])
.ret) .skip))))
(.region [⟨some 27, none, .bin .add (.t 19) (.c (.int .i64 1))⟩, ⟨some 19, none, .mov (.t 27)⟩])))))))
(.seq (.region [⟨some 2, none, .mov (.c (.bool true))⟩])
.ret))))⟩
theorem ok79 : Fok 79 d79 := ⟨_, Tryz.func79, by kernel_rfl⟩
/- stint/verbs.most -/
def d80 : DFunc := ⟨1, [.tmp 2], (.seq (.region [⟨some 2, none, .mov (.c (.int .i64 0))⟩])
(.seq (.seq (.region [⟨some 3, none, .mov (.t 0)⟩, ⟨some 4, none, .bin .eql (.t 3) (.c (.int .i64 1))⟩])
(.cond (.t 4) (.seq (.region [⟨some 2, none, .mov (.c (.int .i64 4611686018427387903))⟩])
.ret) .skip))
(.seq (.region [⟨some 2, none, .mov (.c (.int .i64 4294967295))⟩])
.ret)))⟩
theorem ok80 : Fok 80 d80 := ⟨_, Tryz.func80, by kernel_rfl⟩
/- strconv.Itoa -/
def d81 : DFunc := ⟨1, [.tmp 2], (.seq (.region [⟨some 2, none, .mov (.c (.str []))⟩])
(.seq (.region [⟨some 3, none, .mov (.t 0)⟩, ⟨some 4, none, .callF 106 [(.t 3)]⟩, ⟨some 2, none, .mov (.t 4)⟩])
.ret))⟩
theorem ok81 : Fok 81 d81 := ⟨_, Tryz.func81, by kernel_rfl⟩
/- stint/digits.words -/
def d82 : DFunc := ⟨1, [.tmp 2], (.seq (.region [⟨some 2, none, .mov (.c (.bool false))⟩])
(.seq (.seq (.region [⟨some 5, none, .mov (.t 0)⟩, ⟨some 6, none, .lenSl (.t 5)⟩, ⟨some 7, none, .mov (.c (.int .i64 0))⟩])
(.block 0 (.loop (.seq (.region [⟨some 8, none, .bin .lss (.t 7) (.t 6)⟩])
(.seq (.cond (.t 8) .skip (.exit 0))
(.seq (.block 1 (.seq (.region [⟨some 9, none, .indexAddrS 1 (.t 5) (.t 7)⟩, ⟨some 10, none, .load1 (.t 9)⟩, ⟨some 4, none, .mov (.t 10)⟩])
(.seq (.region [⟨some 11, none, .mov (.t 4)⟩, ⟨some 12, none, .callF 107 [(.t 11)]⟩, ⟨some 13, none, .un .not (.t 12)⟩])
(.cond (.t 13) (.seq (.region [⟨some 2, none, .mov (.c (.bool false))⟩])
.ret) .skip))))
(.region [⟨some 14, none, .bin .add (.t 7) (.c (.int .i64 1))⟩, ⟨some 7, none, .mov (.t 14)⟩])))))))
(.seq (.region [⟨some 15, none, .mov (.t 0)⟩, ⟨some 16, none, .lenSl (.t 15)⟩, ⟨some 17, none, .bin .gtr (.t 16) (.c (.int .i64 0))⟩, ⟨some 2, none, .mov (.t 17)⟩])
.ret)))⟩
theorem ok82 : Fok 82 d82 := ⟨_, Tryz.func82, by kernel_rfl⟩
/- stint/record.within -/
def d85 : DFunc := ⟨3, [.tmp 6], (.seq (.region [⟨some 6, none, .mov (.c (.bool false))⟩])
(.seq (.region [⟨some 7, none, .mov (.t 0)⟩, ⟨some 8, none, .mov (.t 1)⟩, ⟨some 9, none, .bin .geq (.t 7) (.t 8)⟩, ⟨some 10, none, .mov (.t 9)⟩, ⟨some 11, some (10, true), .mov (.t 0)⟩, ⟨some 12, some (10, true), .mov (.t 2)⟩, ⟨some 13, some (10, true), .bin .leq (.t 11) (.t 12)⟩, ⟨some 14, none, .pick (.t 10) (.t 13) (.c (.bool false))⟩, ⟨some 6, none, .mov (.t 14)⟩])
.ret))⟩
theorem ok85 : Fok 85 d85 := ⟨_, Tryz.func85, by kernel_rfl⟩
/- stint/yard.spots -/
def d86 : DFunc := ⟨0, [.tmp 0], (.seq (.region [⟨some 0, none, .mov (.c .nilPtr)⟩])
(.seq (.region [⟨some 1, none, .build [] []⟩, ⟨some 2, none, .mkFunc (.func 113) [(.t 1)] []⟩, ⟨some 3, none, .callF 112 [(.t 2)]⟩, ⟨some 0, none, .mov (.t 3)⟩])
.ret))⟩
theorem ok86 : Fok 86 d86 := ⟨_, Tryz.func86, by kernel_rfl⟩
/- stint/queue.New[int] -/
def d87 : DFunc := ⟨0, [.tmp 0], (.seq (.region [⟨some 0, none, .mov (.c .nilPtr)⟩])
(.seq (.region [⟨some 1, none, .mkMap⟩, ⟨some 2, none, .build [.nilPtr, .nilPtr, .nilMap, (.int .i64 0)] [(2, 1, (.t 1))]⟩, ⟨some 3, none, .box (.t 2)⟩, ⟨some 0, none, .mov (.t 3)⟩])
.ret))⟩
theorem ok87 : Fok 87 d87 := ⟨_, Tryz.func87, by kernel_rfl⟩
/- (*stint/ledger.Ledger).head -/
def d88 : DFunc := ⟨1, [], (.draw [(⟨some 2, none, .mov (.t 0)⟩, .pure), (⟨some 3, none, .mov (.t 0)⟩, .pure), (⟨some 8, none, .mov (.t 0)⟩, .pure), (⟨some 9, none, .nilCheck (.t 8)⟩, .pure), (⟨some 10, none, .fieldAddr 4 (.t 9)⟩, .pure), (⟨some 11, none, .load1 (.t 10)⟩, .read [11, 10]), (⟨some 4, none, .callF 89 [(.t 3)]⟩, .alone 2), (⟨some 5, none, .nilCheck (.t 4)⟩, .pure), (⟨some 6, none, .fieldAddr 0 (.t 5)⟩, .pure), (⟨some 7, none, .load1 (.t 6)⟩, .read [11, 10]), (⟨some 12, none, .build [(.int .i64 0), (.int .i64 0), (.int .i64 0), (.int .i64 0), (.int .i64 0), (.int .i64 0), (.int .i64 0), (.int .i64 0), (.int .i64 0), (.int .i64 0), (.int .i64 0), (.int .i64 0), (.int .i64 0), (.int .i64 0), (.int .i64 0), (.int .i64 0), (.int .i64 0), (.str []), .nilSlice] [(0, 1, (.c (.int .i64 1))), (1, 1, (.t 7)), (2, 1, (.t 11))]⟩, .alone 10), (⟨some 13, none, .callF 114 [(.t 2), (.t 12)]⟩, .alone 11)])⟩
theorem ok88 : Fok 88 d88 := ⟨_, Tryz.func88, by kernel_rfl⟩
/- (*stint/ledger.Ledger).newest -/
def d89 : DFunc := ⟨1, [.tmp 2], (.seq (.region [⟨some 2, none, .mov (.c .nilPtr)⟩])
(.seq (.draw [(⟨some 3, none, .mov (.t 0)⟩, .pure), (⟨some 4, none, .nilCheck (.t 3)⟩, .pure), (⟨some 5, none, .fieldAddr 5 (.t 4)⟩, .pure), (⟨some 6, none, .load1 (.t 5)⟩, .read []), (⟨some 7, none, .mov (.t 0)⟩, .pure), (⟨some 8, none, .nilCheck (.t 7)⟩, .pure), (⟨some 9, none, .fieldAddr 5 (.t 8)⟩, .pure), (⟨some 10, none, .load1 (.t 9)⟩, .read []), (⟨some 11, none, .lenSl (.t 10)⟩, .pure), (⟨some 12, none, .bin .sub (.t 11) (.c (.int .i64 1))⟩, .pure), (⟨some 13, none, .indexAddrS 2 (.t 6) (.t 12)⟩, .pure), (⟨some 2, none, .mov (.t 13)⟩, .pure)])
.ret))⟩
theorem ok89 : Fok 89 d89 := ⟨_, Tryz.func89, by kernel_rfl⟩
/- (*stint/seats.Seats).Get -/
def d90 : DFunc := ⟨2, [.cell 4 7 true, .tmp 5], (.seq (.region [⟨some 4, none, .alloc [(.int .i64 0), (.str []), .nilSlice, (.bool false), (.int .i64 0), (.bool false), (.bool false)]⟩, ⟨some 5, none, .mov (.c (.bool false))⟩])
(.seq (.region [⟨some 9, none, .mov (.t 0)⟩, ⟨some 10, none, .nilCheck (.t 9)⟩, ⟨some 11, none, .fieldAddr 0 (.t 10)⟩, ⟨some 12, none, .load1 (.t 11)⟩, ⟨some 13, none, .mov (.t 1)⟩, ⟨some 14, none, .lookup false .nilPtr (.t 12) (.t 13) true⟩, ⟨some 8, none, .mov (.t 14)⟩, ⟨some 15, none, .extract (.t 8) 0⟩, ⟨some 16, none, .extract (.t 8) 1⟩, ⟨some 6, none, .mov (.t 15)⟩, ⟨some 7, none, .mov (.t 16)⟩])
(.seq (.seq (.region [⟨some 17, none, .mov (.t 7)⟩, ⟨some 18, none, .un .not (.t 17)⟩])
(.cond (.t 18) (.seq (.region [⟨some 19, none, .build [(.int .i64 0), (.str []), .nilSlice, (.bool false), (.int .i64 0), (.bool false), (.bool false)] []⟩, ⟨none, none, .store 7 (.t 4) (.t 19)⟩, ⟨some 5, none, .mov (.c (.bool false))⟩])
.ret) .skip))
(.seq (.draw [(⟨some 20, none, .mov (.t 1)⟩, .pure), (⟨some 21, none, .mov (.t 6)⟩, .pure), (⟨some 22, none, .nilCheck (.t 21)⟩, .pure), (⟨some 23, none, .fieldAddr 0 (.t 22)⟩, .pure), (⟨some 24, none, .load1 (.t 23)⟩, .read [28, 27]), (⟨some 25, none, .mov (.t 6)⟩, .pure), (⟨some 26, none, .nilCheck (.t 25)⟩, .pure), (⟨some 27, none, .fieldAddr 1 (.t 26)⟩, .pure), (⟨some 28, none, .load1 (.t 27)⟩, .read [28, 27, 9]), (⟨some 30, none, .mov (.t 6)⟩, .pure), (⟨some 31, none, .nilCheck (.t 30)⟩, .pure), (⟨some 32, none, .fieldAddr 2 (.t 31)⟩, .pure), (⟨some 33, none, .load1 (.t 32)⟩, .read [28, 27]), (⟨some 34, none, .bin .gtr (.t 33) (.c (.int .i64 0))⟩, .pure), (⟨some 35, none, .mov (.t 6)⟩, .pure), (⟨some 36, none, .nilCheck (.t 35)⟩, .pure), (⟨some 37, none, .fieldAddr 3 (.t 36)⟩, .pure), (⟨some 38, none, .load1 (.t 37)⟩, .read [28, 27]), (⟨some 39, none, .mov (.t 6)⟩, .pure), (⟨some 40, none, .nilCheck (.t 39)⟩, .pure), (⟨some 41, none, .fieldAddr 4 (.t 40)⟩, .pure), (⟨some 42, none, .load1 (.t 41)⟩, .read [28, 27]), (⟨some 43, none, .mov (.t 6)⟩, .pure), (⟨some 44, none, .nilCheck (.t 43)⟩, .pure), (⟨some 45, none, .fieldAddr 5 (.t 44)⟩, .pure), (⟨some 46, none, .load1 (.t 45)⟩, .read [28, 27]), (⟨some 29, none, .callF 115 [(.t 28)]⟩, .alone 9), (⟨some 47, none, .build [(.int .i64 0), (.str []), .nilSlice, (.bool false), (.int .i64 0), (.bool false), (.bool false)] [(0, 1, (.t 20)), (1, 1, (.t 24)), (2, 1, (.t 29)), (3, 1, (.t 34)), (4, 1, (.t 38)), (5, 1, (.t 42)), (6, 1, (.t 46))]⟩, .alone 27), (⟨none, none, .store 7 (.t 4) (.t 47)⟩, .alone 28), (⟨some 5, none, .mov (.c (.bool true))⟩, .pure)])
.ret))))⟩
theorem ok90 : Fok 90 d90 := ⟨_, Tryz.func90, by kernel_rfl⟩
/- (*stint/house.guest).item -/
def d91 : DFunc := ⟨1, [.cell 2 3 true, .tmp 3], (.seq (.region [⟨some 2, none, .alloc [(.int .i64 0), (.str []), .nilSlice]⟩, ⟨some 3, none, .mov (.c (.bool false))⟩])
(.block 0 (.loop (.block 1 (.seq (.seq (.region [⟨some 8, none, .mov (.t 0)⟩, ⟨some 9, none, .nilCheck (.t 8)⟩, ⟨some 10, none, .fieldAddr 0 (.t 9)⟩, ⟨some 11, none, .load1 (.t 10)⟩, ⟨some 12, none, .callF 116 [(.t 11)]⟩, ⟨some 7, none, .mov (.t 12)⟩, ⟨some 13, none, .extract (.t 7) 0⟩, ⟨some 14, none, .extract (.t 7) 1⟩, ⟨some 4, none, .alloc [(.int .i64 0), (.str []), .nilSlice]⟩, ⟨none, none, .store 3 (.t 4) (.t 13)⟩, ⟨some 5, none, .mov (.t 14)⟩])
(.seq (.region [⟨some 15, none, .mov (.t 5)⟩])
(.cond (.t 15) (.seq (.region [⟨some 16, none, .loadN 3 (.t 4)⟩, ⟨none, none, .store 3 (.t 2) (.t 16)⟩, ⟨some 3, none, .mov (.c (.bool true))⟩])
.ret) .skip)))
(.seq (.seq (.region [⟨some 17, none, .mov (.t 0)⟩, ⟨some 18, none, .nilCheck (.t 17)⟩, ⟨some 19, none, .fieldAddr 1 (.t 18)⟩, ⟨some 20, none, .load1 (.t 19)⟩, ⟨some 21, none, .lenSl (.t 20)⟩, ⟨some 22, none, .bin .eql (.t 21) (.c (.int .i64 0))⟩])
(.cond (.t 22) (.seq (.region [⟨some 23, none, .build [(.int .i64 0), (.str []), .nilSlice] []⟩, ⟨none, none, .store 3 (.t 2) (.t 23)⟩, ⟨some 3, none, .mov (.c (.bool false))⟩])
.ret) .skip))
(.seq (.region [⟨some 24, none, .mov (.t 0)⟩, ⟨some 25, none, .nilCheck (.t 24)⟩, ⟨some 26, none, .fieldAddr 1 (.t 25)⟩, ⟨some 27, none, .load1 (.t 26)⟩, ⟨some 28, none, .indexAddrS 2 (.t 27) (.c (.int .i64 0))⟩, ⟨some 29, none, .loadN 2 (.t 28)⟩, ⟨some 6, none, .alloc [(.int .i64 0), .nilSlice]⟩, ⟨none, none, .store 2 (.t 6) (.t 29)⟩])
(.seq (.region [⟨some 30, none, .mov (.t 0)⟩, ⟨some 31, none, .mov (.t 0)⟩, ⟨some 32, none, .nilCheck (.t 31)⟩, ⟨some 33, none, .fieldAddr 1 (.t 32)⟩, ⟨some 34, none, .load1 (.t 33)⟩, ⟨some 35, none, .sliceSl 2 (.t 34) (some (.c (.int .i64 1))) none none⟩, ⟨some 36, none, .nilCheck (.t 30)⟩, ⟨some 37, none, .fieldAddr 1 (.t 36)⟩, ⟨none, none, .store 1 (.t 37) (.t 35)⟩])
(.seq (.draw [(⟨some 38, none, .mov (.t 0)⟩, .pure), (⟨some 39, none, .nilCheck (.t 38)⟩, .pure), (⟨some 40, none, .fieldAddr 0 (.t 39)⟩, .pure), (⟨some 41, none, .load1 (.t 40)⟩, .read [6]), (⟨some 42, none, .fieldAddr 1 (.t 6)⟩, .pure), (⟨some 43, none, .load1 (.t 42)⟩, .read [6]), (⟨some 44, none, .callF 117 [(.t 41), (.t 43)]⟩, .alone 6)])
(.seq (.draw [(⟨some 45, none, .mov (.t 0)⟩, .pure), (⟨some 46, none, .nilCheck (.t 45)⟩, .pure), (⟨some 47, none, .fieldAddr 3 (.t 46)⟩, .pure), (⟨some 48, none, .load1 (.t 47)⟩, .read [10]), (⟨some 49, none, .fieldAddr 1 (.t 6)⟩, .pure), (⟨some 50, none, .load1 (.t 49)⟩, .read [10]), (⟨some 51, none, .lenSl (.t 50)⟩, .pure), (⟨some 52, none, .bin .add (.t 48) (.t 51)⟩, .pure), (⟨some 53, none, .nilCheck (.t 45)⟩, .pure), (⟨some 54, none, .fieldAddr 3 (.t 53)⟩, .pure), (⟨none, none, .store 1 (.t 54) (.t 52)⟩, .alone 10)])
(.region [⟨some 55, none, .mov (.t 0)⟩, ⟨some 56, none, .fieldAddr 0 (.t 6)⟩, ⟨some 57, none, .load1 (.t 56)⟩, ⟨some 58, none, .nilCheck (.t 55)⟩, ⟨some 59, none, .fieldAddr 5 (.t 58)⟩, ⟨none, none, .store 1 (.t 59) (.t 57)⟩])))))))))))⟩
theorem ok91 : Fok 91 d91 := ⟨_, Tryz.func91, by kernel_rfl⟩
/- (*stint/house.guest).ends -/
def d92 : DFunc := ⟨3, [.tmp 6], (.seq (.region [⟨some 5, none, .box (.t 2)⟩, ⟨some 6, none, .mov (.c .nilPtr)⟩])
(.seq (.draw [(⟨some 7, none, .mov (.t 1)⟩, .pure), (⟨some 8, none, .loadN 8 (.t 5)⟩, .read [17, 16]), (⟨some 9, none, .mov (.t 0)⟩, .pure), (⟨some 10, none, .nilCheck (.t 9)⟩, .pure), (⟨some 11, none, .fieldAddr 5 (.t 10)⟩, .pure), (⟨some 12, none, .load1 (.t 11)⟩, .read [17, 16]), (⟨some 13, none, .mov (.t 0)⟩, .pure), (⟨some 14, none, .nilCheck (.t 13)⟩, .pure), (⟨some 15, none, .fieldAddr 3 (.t 14)⟩, .pure), (⟨some 16, none, .load1 (.t 15)⟩, .read [17, 16]), (⟨some 17, none, .mov (.t 0)⟩, .pure), (⟨some 18, none, .nilCheck (.t 17)⟩, .pure), (⟨some 19, none, .fieldAddr 0 (.t 18)⟩, .pure), (⟨some 20, none, .load1 (.t 19)⟩, .read [17, 16, 14]), (⟨some 21, none, .callF 118 [(.t 20)]⟩, .alone 14), (⟨some 22, none, .bin .sub (.t 16) (.t 21)⟩, .pure), (⟨some 23, none, .build [(.int .i64 0), (.int .i64 0), (.int .i64 0), (.int .i64 0), (.int .i64 0), (.int .i64 0), (.int .i64 0), (.int .i64 0), (.int .i64 0), (.str []), .nilSlice] [(0, 1, (.t 7)), (3, 8, (.t 8)), (1, 1, (.t 12)), (2, 1, (.t 22))]⟩, .alone 16), (⟨some 24, none, .box (.t 23)⟩, .alone 17), (⟨some 6, none, .mov (.t 24)⟩, .pure)])
.ret))⟩
theorem ok92 : Fok 92 d92 := ⟨_, Tryz.func92, by kernel_rfl⟩
/- stint/verbs.Parse -/
def d93 : DFunc := ⟨1, [.cell 2 8 true, .tmp 3], (.seq (.region [⟨some 2, none, .alloc [(.int .i64 0), (.int .i64 0), (.int .i64 0), (.int .i64 0), (.int .i64 0), (.int .i64 0), (.str []), .nilSlice]⟩, ⟨some 3, none, .mov (.c (.int .i64 0))⟩])
(.seq (.region [⟨some 16, none, .mov (.t 0)⟩, ⟨some 17, none, .callF 119 [(.t 16), (.c (.str [32]))]⟩, ⟨some 15, none, .mov (.t 17)⟩, ⟨some 18, none, .extract (.t 15) 0⟩, ⟨some 19, none, .extract (.t 15) 1⟩, ⟨some 20, none, .extract (.t 15) 2⟩, ⟨some 4, none, .mov (.t 18)⟩, ⟨some 5, none, .mov (.t 19)⟩, ⟨some 6, none, .mov (.t 20)⟩])
(.seq (.region [⟨some 21, none, .mov (.t 4)⟩, ⟨some 22, none, .callF 120 [(.t 21)]⟩, ⟨some 7, none, .mov (.t 22)⟩])
(.seq (.seq (.region [⟨some 23, none, .mov (.t 7)⟩, ⟨some 24, none, .bin .eql (.t 23) (.c (.int .i64 0))⟩])
(.cond (.t 24) (.seq (.region [⟨some 25, none, .build [(.int .i64 0), (.int .i64 0), (.int .i64 0), (.int .i64 0), (.int .i64 0), (.int .i64 0), (.str []), .nilSlice] []⟩, ⟨none, none, .store 8 (.t 2) (.t 25)⟩, ⟨some 3, none, .mov (.c (.int .i64 70))⟩])
.ret) .skip))
(.seq (.region [⟨some 27, none, .mov (.t 0)⟩, ⟨some 28, none, .callF 121 [(.t 27)]⟩, ⟨some 26, none, .mov (.t 28)⟩, ⟨some 29, none, .extract (.t 26) 0⟩, ⟨some 30, none, .extract (.t 26) 1⟩, ⟨some 8, none, .mov (.t 29)⟩, ⟨some 9, none, .mov (.t 30)⟩])
(.seq (.region [⟨some 32, none, .mov (.t 7)⟩, ⟨some 33, none, .callF 50 [(.t 32)]⟩, ⟨some 31, none, .mov (.t 33)⟩, ⟨some 34, none, .extract (.t 31) 0⟩, ⟨some 35, none, .extract (.t 31) 1⟩, ⟨some 10, none, .alloc [(.str []), (.str [])]⟩, ⟨none, none, .store 2 (.t 10) (.t 34)⟩, ⟨some 11, none, .mov (.t 35)⟩])
(.seq (.seq (.region [⟨some 36, none, .mov (.t 9)⟩, ⟨some 37, none, .un .not (.t 36)⟩, ⟨some 38, none, .mov (.t 37)⟩, ⟨some 39, some (38, false), .mov (.t 8)⟩, ⟨some 40, some (38, false), .lenSl (.t 39)⟩, ⟨some 41, some (38, false), .fieldAddr 1 (.t 10)⟩, ⟨some 42, some (38, false), .load1 (.t 41)⟩, ⟨some 43, some (38, false), .lenStr (.t 42)⟩, ⟨some 44, some (38, false), .bin .add (.c (.int .i64 1)) (.t 43)⟩, ⟨some 45, some (38, false), .bin .neq (.t 40) (.t 44)⟩, ⟨some 46, none, .pick (.t 38) (.c (.bool true)) (.t 45)⟩])
(.cond (.t 46) (.seq (.region [⟨some 47, none, .build [(.int .i64 0), (.int .i64 0), (.int .i64 0), (.int .i64 0), (.int .i64 0), (.int .i64 0), (.str []), .nilSlice] []⟩, ⟨none, none, .store 8 (.t 2) (.t 47)⟩, ⟨some 3, none, .mov (.c (.int .i64 71))⟩])
.ret) .skip))
(.seq (.region [⟨some 48, none, .mov (.t 7)⟩, ⟨some 49, none, .build [(.int .i64 0), (.int .i64 0), (.int .i64 0), (.int .i64 0), (.int .i64 0), (.int .i64 0), (.str []), .nilSlice] [(0, 1, (.t 48))]⟩, ⟨some 12, none, .alloc [(.int .i64 0), (.int .i64 0), (.int .i64 0), (.int .i64 0), (.int .i64 0), (.int .i64 0), (.str []), .nilSlice]⟩, ⟨none, none, .store 8 (.t 12) (.t 49)⟩])
(.seq (.seq (.region [⟨some 50, none, .fieldAddr 1 (.t 10)⟩, ⟨some 51, none, .load1 (.t 50)⟩, ⟨some 52, none, .rangeStr (.t 51)⟩])
(.block 0 (.loop (.seq (.region [⟨some 53, none, .nextStr (.t 52)⟩, ⟨some 54, none, .extract (.t 53) 0⟩])
(.seq (.cond (.t 54) .skip (.exit 0))
(.block 1 (.seq (.region [⟨some 55, none, .extract (.t 53) 1⟩, ⟨some 56, none, .extract (.t 53) 2⟩, ⟨some 13, none, .mov (.t 55)⟩, ⟨some 14, none, .mov (.t 56)⟩])
(.seq (.draw [(⟨some 57, none, .mov (.t 14)⟩, .pure), (⟨some 59, none, .mov (.t 8)⟩, .pure), (⟨some 60, none, .mov (.t 13)⟩, .pure), (⟨some 61, none, .bin .add (.t 60) (.c (.int .i64 1))⟩, .pure), (⟨some 62, none, .indexAddrS 1 (.t 59) (.t 61)⟩, .pure), (⟨some 63, none, .load1 (.t 62)⟩, .read [7]), (⟨some 58, none, .callF 57 [(.t 57)]⟩, .alone 1), (⟨some 64, none, .callF 122 [(.t 12), (.t 58), (.t 63)]⟩, .alone 7), (⟨some 65, none, .un .not (.t 64)⟩, .pure)])
(.cond (.t 65) (.seq (.region [⟨some 66, none, .build [(.int .i64 0), (.int .i64 0), (.int .i64 0), (.int .i64 0), (.int .i64 0), (.int .i64 0), (.str []), .nilSlice] []⟩, ⟨none, none, .store 8 (.t 2) (.t 66)⟩, ⟨some 3, none, .mov (.c (.int .i64 71))⟩])
.ret) .skip)))))))))
(.seq (.seq (.region [⟨some 67, none, .mov (.t 7)⟩, ⟨some 68, none, .bin .eql (.t 67) (.c (.int .i64 1))⟩, ⟨some 69, none, .mov (.t 68)⟩, ⟨some 70, some (69, true), .fieldAddr 4 (.t 12)⟩, ⟨some 71, some (69, true), .load1 (.t 70)⟩, ⟨some 72, some (69, true), .bin .eql (.t 71) (.c (.int .i64 0))⟩, ⟨some 73, none, .pick (.t 69) (.t 72) (.c (.bool false))⟩])
(.cond (.t 73) (.region [⟨some 74, none, .fieldAddr 4 (.t 12)⟩, ⟨none, none, .store 1 (.t 74) (.c (.int .i64 1))⟩]) .skip))
(.seq (.region [⟨some 75, none, .loadN 8 (.t 12)⟩, ⟨none, none, .store 8 (.t 2) (.t 75)⟩, ⟨some 3, none, .mov (.c (.int .i64 0))⟩])
.ret)))))))))))⟩
theorem ok93 : Fok 93 d93 := ⟨_, Tryz.func93, by kernel_rfl⟩
/- (*stint/intake.Intake).Body -/
def d94 : DFunc := ⟨2, [.tmp 4], (.seq (.region [⟨some 4, none, .mov (.c (.int .i64 0))⟩])
(.seq (.seq (.region [⟨some 5, none, .mov (.t 1)⟩, ⟨some 6, none, .bin .lss (.t 5) (.c (.int .i64 0))⟩, ⟨some 7, none, .mov (.t 6)⟩, ⟨some 8, some (7, false), .mov (.t 1)⟩, ⟨some 9, some (7, false), .bin .gtr (.t 8) (.c (.int .i64 4294967295))⟩, ⟨some 10, none, .pick (.t 7) (.c (.bool true)) (.t 9)⟩, ⟨some 11, none, .mov (.t 10)⟩, ⟨some 12, some (11, false), .mov (.t 0)⟩, ⟨some 13, some (11, false), .nilCheck (.t 12)⟩, ⟨some 14, some (11, false), .fieldAddr 1 (.t 13)⟩, ⟨some 15, some (11, false), .load1 (.t 14)⟩, ⟨some 16, some (11, false), .bin .neq (.t 15) (.c (.int .i64 0))⟩, ⟨some 17, none, .pick (.t 11) (.c (.bool true)) (.t 16)⟩])
(.cond (.t 17) (.seq (.region [⟨some 4, none, .mov (.c (.int .i64 61))⟩])
.ret) .skip))
(.seq (.seq (.region [⟨some 18, none, .mov (.t 1)⟩, ⟨some 19, none, .mov (.t 0)⟩, ⟨some 20, none, .nilCheck (.t 19)⟩, ⟨some 21, none, .fieldAddr 0 (.t 20)⟩, ⟨some 22, none, .load1 (.t 21)⟩, ⟨some 23, none, .bin .leq (.t 18) (.t 22)⟩])
(.cond (.t 23) (.seq (.region [⟨some 24, none, .mov (.t 0)⟩, ⟨some 25, none, .mov (.t 0)⟩, ⟨some 26, none, .mov (.t 1)⟩, ⟨some 27, none, .nilCheck (.t 24)⟩, ⟨some 28, none, .fieldAddr 1 (.t 27)⟩, ⟨none, none, .store 1 (.t 28) (.c (.int .i64 2))⟩, ⟨some 29, none, .nilCheck (.t 25)⟩, ⟨some 30, none, .fieldAddr 3 (.t 29)⟩, ⟨none, none, .store 1 (.t 30) (.t 26)⟩])
(.seq (.region [⟨some 4, none, .mov (.c (.int .i64 0))⟩])
.ret)) .skip))
(.seq (.region [⟨some 31, none, .mov (.t 0)⟩, ⟨some 32, none, .mov (.t 0)⟩, ⟨some 33, none, .mov (.t 1)⟩, ⟨some 34, none, .bin .add (.t 33) (.c (.int .i64 2))⟩, ⟨some 35, none, .nilCheck (.t 31)⟩, ⟨some 36, none, .fieldAddr 1 (.t 35)⟩, ⟨none, none, .store 1 (.t 36) (.c (.int .i64 3))⟩, ⟨some 37, none, .nilCheck (.t 32)⟩, ⟨some 38, none, .fieldAddr 4 (.t 37)⟩, ⟨none, none, .store 1 (.t 38) (.t 34)⟩])
(.seq (.region [⟨some 39, none, .mov (.t 0)⟩, ⟨some 40, none, .mov (.t 0)⟩, ⟨some 41, none, .mov (.t 0)⟩, ⟨some 42, none, .nilCheck (.t 41)⟩, ⟨some 43, none, .fieldAddr 2 (.t 42)⟩, ⟨some 44, none, .load1 (.t 43)⟩, ⟨some 45, none, .callF 123 [(.t 40), (.t 44)]⟩, ⟨some 46, none, .nilCheck (.t 39)⟩, ⟨some 47, none, .fieldAddr 2 (.t 46)⟩, ⟨none, none, .store 1 (.t 47) (.t 45)⟩])
(.seq (.region [⟨some 4, none, .mov (.c (.int .i64 0))⟩])
.ret))))))⟩
theorem ok94 : Fok 94 d94 := ⟨_, Tryz.func94, by kernel_rfl⟩
/- stint/answers.Put -/
def d95 : DFunc := ⟨1, [.tmp 2, .tmp 3], (.seq (.region [⟨some 1, none, .box (.t 0)⟩, ⟨some 2, none, .mov (.c .nilSlice)⟩, ⟨some 3, none, .mov (.c (.int .i64 0))⟩])
(.seq (.seq (.region [⟨some 6, none, .loadN 5 (.t 1)⟩, ⟨some 7, none, .callF 124 [(.t 6)]⟩, ⟨some 4, none, .mov (.t 7)⟩])
(.seq (.region [⟨some 8, none, .mov (.t 4)⟩, ⟨some 9, none, .bin .neq (.t 8) (.c (.int .i64 0))⟩])
(.cond (.t 9) (.seq (.region [⟨some 10, none, .mov (.t 4)⟩, ⟨some 2, none, .mov (.c .nilSlice)⟩, ⟨some 3, none, .mov (.t 10)⟩])
.ret) .skip)))
(.seq (.region [⟨some 11, none, .fieldAddr 0 (.t 1)⟩, ⟨some 12, none, .load1 (.t 11)⟩, ⟨some 13, none, .callF 125 [(.t 12)]⟩, ⟨some 14, none, .strBytes (.t 13)⟩, ⟨some 5, none, .mov (.t 14)⟩])
(.seq (.seq (.region [⟨some 15, none, .fieldAddr 0 (.t 1)⟩, ⟨some 16, none, .load1 (.t 15)⟩])
(.block 0 (.seq (.block 5 (.seq (.block 4 (.seq (.block 3 (.seq (.block 2 (.seq (.block 1 (.seq (.seq (.seq (.seq (.region [⟨some 18, none, .bin .eql (.t 16) (.c (.int .i64 3))⟩, ⟨some 17, none, .mov (.t 18)⟩])
(.cond (.t 17) .skip (.region [⟨some 19, none, .bin .eql (.t 16) (.c (.int .i64 12))⟩, ⟨some 17, none, .mov (.t 19)⟩])))
(.cond (.t 17) (.exit 1) .skip))
(.seq (.seq (.region [⟨some 21, none, .bin .eql (.t 16) (.c (.int .i64 16))⟩, ⟨some 20, none, .mov (.t 21)⟩])
(.cond (.t 20) (.exit 2) .skip))
(.seq (.seq (.region [⟨some 23, none, .bin .eql (.t 16) (.c (.int .i64 1))⟩, ⟨some 22, none, .mov (.t 23)⟩])
(.cond (.t 22) (.exit 3) .skip))
(.seq (.seq (.region [⟨some 25, none, .bin .eql (.t 16) (.c (.int .i64 2))⟩, ⟨some 24, none, .mov (.t 25)⟩])
(.cond (.t 24) (.exit 4) .skip))
(.seq (.seq (.region [⟨some 27, none, .bin .eql (.t 16) (.c (.int .i64 10))⟩, ⟨some 26, none, .mov (.t 27)⟩])
(.cond (.t 26) .skip (.region [⟨some 28, none, .bin .eql (.t 16) (.c (.int .i64 13))⟩, ⟨some 26, none, .mov (.t 28)⟩])))
(.cond (.t 26) (.exit 5) .skip))))))
(.exit 0)))
(.region [⟨some 29, none, .mov (.t 5)⟩, ⟨some 30, none, .fieldAddr 1 (.t 1)⟩, ⟨some 31, none, .load1 (.t 30)⟩, ⟨some 32, none, .callF 58 [(.t 31)]⟩, ⟨some 33, none, .bin .add (.c (.str [32])) (.t 32)⟩, ⟨some 34, none, .append 1 1 [] (.t 29) (.t 33)⟩, ⟨some 5, none, .mov (.t 34)⟩])))
(.seq (.seq (.region [⟨some 35, none, .mov (.t 5)⟩, ⟨some 36, none, .fieldAddr 4 (.t 1)⟩, ⟨some 37, none, .load1 (.t 36)⟩, ⟨some 38, none, .lenSl (.t 37)⟩, ⟨some 39, none, .callF 58 [(.t 38)]⟩, ⟨some 40, none, .bin .add (.c (.str [32])) (.t 39)⟩, ⟨some 41, none, .bin .add (.t 40) (.c (.str [13, 10]))⟩, ⟨some 42, none, .append 1 1 [] (.t 35) (.t 41)⟩, ⟨some 5, none, .mov (.t 42)⟩])
(.region [⟨some 43, none, .mov (.t 5)⟩, ⟨some 44, none, .fieldAddr 4 (.t 1)⟩, ⟨some 45, none, .load1 (.t 44)⟩, ⟨some 46, none, .append 1 1 [] (.t 43) (.t 45)⟩, ⟨some 5, none, .mov (.t 46)⟩]))
(.exit 0))))
(.seq (.region [⟨some 47, none, .mov (.t 5)⟩, ⟨some 48, none, .fieldAddr 1 (.t 1)⟩, ⟨some 49, none, .load1 (.t 48)⟩, ⟨some 50, none, .callF 58 [(.t 49)]⟩, ⟨some 51, none, .bin .add (.c (.str [32])) (.t 50)⟩, ⟨some 52, none, .append 1 1 [] (.t 47) (.t 51)⟩, ⟨some 5, none, .mov (.t 52)⟩])
(.exit 0))))
(.seq (.region [⟨some 53, none, .mov (.t 5)⟩, ⟨some 54, none, .fieldAddr 3 (.t 1)⟩, ⟨some 55, none, .load1 (.t 54)⟩, ⟨some 56, none, .bin .add (.c (.str [32])) (.t 55)⟩, ⟨some 57, none, .append 1 1 [] (.t 53) (.t 56)⟩, ⟨some 5, none, .mov (.t 57)⟩])
(.exit 0))))
(.seq (.region [⟨some 58, none, .mov (.t 5)⟩, ⟨some 59, none, .fieldAddr 2 (.t 1)⟩, ⟨some 60, none, .load1 (.t 59)⟩, ⟨some 61, none, .callF 58 [(.t 60)]⟩, ⟨some 62, none, .bin .add (.c (.str [32])) (.t 61)⟩, ⟨some 63, none, .append 1 1 [] (.t 58) (.t 62)⟩, ⟨some 5, none, .mov (.t 63)⟩])
(.exit 0)))))
(.seq (.region [⟨some 64, none, .mov (.t 5)⟩, ⟨some 65, none, .append 1 1 [] (.t 64) (.c (.str [13, 10]))⟩, ⟨some 2, none, .mov (.t 65)⟩, ⟨some 3, none, .mov (.c (.int .i64 0))⟩])
.ret)))))⟩
theorem ok95 : Fok 95 d95 := ⟨_, Tryz.func95, by kernel_rfl⟩
/- (*stint/engine.Engine).match -/
def d101 : DFunc := ⟨1, [], (.block 0 (.loop (.block 1 (.seq (.region [⟨some 2, none, .mov (.c .nilSlice)⟩])
(.seq (.seq (.region [⟨some 9, none, .mov (.t 0)⟩, ⟨some 10, none, .nilCheck (.t 9)⟩, ⟨some 11, none, .fieldAddr 7 (.t 10)⟩, ⟨some 12, none, .load1 (.t 11)⟩, ⟨some 13, none, .callF 132 [(.t 12)]⟩, ⟨some 14, none, .lenSl (.t 13)⟩, ⟨some 15, none, .mov (.c (.int .i64 0))⟩])
(.block 2 (.loop (.seq (.region [⟨some 16, none, .bin .lss (.t 15) (.t 14)⟩])
(.seq (.cond (.t 16) .skip (.exit 2))
(.seq (.block 3 (.seq (.region [⟨some 17, none, .indexAddrS 1 (.t 13) (.t 15)⟩, ⟨some 18, none, .load1 (.t 17)⟩, ⟨some 4, none, .mov (.t 18)⟩])
(.seq (.region [⟨some 19, none, .mov (.t 0)⟩, ⟨some 20, none, .nilCheck (.t 19)⟩, ⟨some 21, none, .fieldAddr 7 (.t 20)⟩, ⟨some 22, none, .load1 (.t 21)⟩, ⟨some 23, none, .mov (.t 4)⟩, ⟨some 24, none, .callF 133 [(.t 22), (.t 23)]⟩, ⟨some 25, none, .bin .geq (.t 24) (.c (.int .i64 0))⟩])
(.cond (.t 25) (.region [⟨some 26, none, .mov (.t 2)⟩, ⟨some 27, none, .mov (.t 4)⟩, ⟨some 28, none, .buildSlice 1 [(.str [])] [(0, 1, (.t 27))]⟩, ⟨some 29, none, .append 1 16 [] (.t 26) (.t 28)⟩, ⟨some 2, none, .mov (.t 29)⟩]) .skip))))
(.region [⟨some 30, none, .bin .add (.t 15) (.c (.int .i64 1))⟩, ⟨some 15, none, .mov (.t 30)⟩])))))))
(.seq (.region [⟨some 31, none, .mov (.t 0)⟩, ⟨some 32, none, .mov (.t 2)⟩, ⟨some 33, none, .callF 134 [(.t 31), (.t 32)]⟩, ⟨some 5, none, .mov (.t 33)⟩])
(.seq (.seq (.region [⟨some 34, none, .mov (.t 5)⟩, ⟨some 35, none, .bin .eql (.t 34) (.c (.int .i64 0))⟩])
(.cond (.t 35) .ret .skip))
(.seq (.region [⟨some 37, none, .mov (.t 0)⟩, ⟨some 38, none, .nilCheck (.t 37)⟩, ⟨some 39, none, .fieldAddr 6 (.t 38)⟩, ⟨some 40, none, .load1 (.t 39)⟩, ⟨some 41, none, .mov (.t 5)⟩, ⟨some 42, none, .callF 98 [(.t 40), (.t 41)]⟩, ⟨some 36, none, .mov (.t 42)⟩, ⟨some 43, none, .extract (.t 36) 0⟩, ⟨some 44, none, .extract (.t 36) 1⟩, ⟨some 6, none, .alloc [(.int .i64 0), (.int .i64 0), (.int .i64 0), (.int .i64 0), (.int .i64 0), (.int .i64 0), (.int .i64 0), (.int .i64 0), (.int .i64 0), (.int .i64 0), (.int .i64 0), (.int .i64 0), (.int .i64 0), (.int .i64 0), (.str []), .nilSlice]⟩, ⟨none, none, .store 16 (.t 6) (.t 43)⟩, ⟨some 7, none, .mov (.t 44)⟩])
(.seq (.draw [(⟨some 45, none, .mov (.t 0)⟩, .pure), (⟨some 46, none, .nilCheck (.t 45)⟩, .pure), (⟨some 47, none, .fieldAddr 7 (.t 46)⟩, .pure), (⟨some 48, none, .load1 (.t 47)⟩, .read [6]), (⟨some 49, none, .fieldAddr 14 (.t 6)⟩, .pure), (⟨some 50, none, .load1 (.t 49)⟩, .read [6]), (⟨some 51, none, .callF 133 [(.t 48), (.t 50)]⟩, .alone 6), (⟨some 8, none, .mov (.t 51)⟩, .pure)])
(.seq (.region [⟨some 52, none, .mov (.t 0)⟩, ⟨some 53, none, .nilCheck (.t 52)⟩, ⟨some 54, none, .fieldAddr 7 (.t 53)⟩, ⟨some 55, none, .load1 (.t 54)⟩, ⟨some 56, none, .mov (.t 8)⟩, ⟨some 57, none, .callF 135 [(.t 55), (.t 56)]⟩])
(.region [⟨some 58, none, .mov (.t 0)⟩, ⟨some 59, none, .mov (.t 5)⟩, ⟨some 60, none, .mov (.t 8)⟩, ⟨some 61, none, .callF 136 [(.t 58), (.t 59), (.t 60)]⟩])))))))))))⟩
theorem ok101 : Fok 101 d101 := ⟨_, Tryz.func101, by kernel_rfl⟩
/- (*stint/engine.Engine).told -/
def d102 : DFunc := ⟨1, [.tmp 2], (.seq (.region [⟨some 1, none, .box (.t 0)⟩, ⟨some 2, none, .mov (.c .nilSlice)⟩])
(.seq (.region [⟨some 4, none, .load1 (.t 1)⟩, ⟨some 5, none, .nilCheck (.t 4)⟩, ⟨some 6, none, .fieldAddr 38 (.t 5)⟩, ⟨some 7, none, .load1 (.t 6)⟩, ⟨some 8, none, .mkFunc (.func 138) [] [(.t 1)]⟩, ⟨some 9, none, .callF 137 [(.t 7), (.t 8)]⟩])
(.seq (.region [⟨some 10, none, .load1 (.t 1)⟩, ⟨some 11, none, .nilCheck (.t 10)⟩, ⟨some 12, none, .fieldAddr 40 (.t 11)⟩, ⟨some 13, none, .load1 (.t 12)⟩, ⟨some 3, none, .mov (.t 13)⟩])
(.seq (.region [⟨some 14, none, .load1 (.t 1)⟩, ⟨some 15, none, .nilCheck (.t 14)⟩, ⟨some 16, none, .fieldAddr 40 (.t 15)⟩, ⟨none, none, .store 1 (.t 16) (.c .nilSlice)⟩])
(.seq (.region [⟨some 17, none, .mov (.t 3)⟩, ⟨some 2, none, .mov (.t 17)⟩])
.ret)))))⟩
theorem ok102 : Fok 102 d102 := ⟨_, Tryz.func102, by kernel_rfl⟩
/- stint/engine.deedOf -/
def d103 : DFunc := ⟨1, [.tmp 2], (.seq (.region [⟨some 1, none, .box (.t 0)⟩, ⟨some 2, none, .mov (.c .nilIface)⟩])
(.seq (.seq (.region [⟨some 3, none, .fieldAddr 0 (.t 1)⟩, ⟨some 4, none, .load1 (.t 3)⟩])
(.block 0 (.seq (.region [⟨some 6, none, .bin .eql (.t 4) (.c (.int .i64 1))⟩, ⟨some 5, none, .mov (.t 6)⟩])
(.cond (.t 5) (.seq (.region [⟨some 7, none, .loadN 8 (.t 1)⟩, ⟨some 8, none, .build [(.int .i64 0), (.int .i64 0), (.int .i64 0), (.int .i64 0), (.int .i64 0), (.int .i64 0), (.str []), .nilSlice] [(0, 8, (.t 7))]⟩, ⟨some 9, none, .mkIface 249 (.t 8)⟩, ⟨some 2, none, .mov (.t 9)⟩])
.ret) (.seq (.seq (.region [⟨some 11, none, .bin .eql (.t 4) (.c (.int .i64 3))⟩, ⟨some 10, none, .mov (.t 11)⟩])
(.cond (.t 10) .skip (.region [⟨some 12, none, .bin .eql (.t 4) (.c (.int .i64 4))⟩, ⟨some 10, none, .mov (.t 12)⟩])))
(.cond (.t 10) (.seq (.region [⟨some 13, none, .loadN 8 (.t 1)⟩, ⟨some 14, none, .build [(.int .i64 0), (.int .i64 0), (.int .i64 0), (.int .i64 0), (.int .i64 0), (.int .i64 0), (.str []), .nilSlice] [(0, 8, (.t 13))]⟩, ⟨some 15, none, .mkIface 251 (.t 14)⟩, ⟨some 2, none, .mov (.t 15)⟩])
.ret) (.seq (.region [⟨some 17, none, .bin .eql (.t 4) (.c (.int .i64 5))⟩, ⟨some 16, none, .mov (.t 17)⟩])
(.cond (.t 16) (.seq (.region [⟨some 18, none, .loadN 8 (.t 1)⟩, ⟨some 19, none, .build [(.int .i64 0), (.int .i64 0), (.int .i64 0), (.int .i64 0), (.int .i64 0), (.int .i64 0), (.str []), .nilSlice] [(0, 8, (.t 18))]⟩, ⟨some 20, none, .mkIface 252 (.t 19)⟩, ⟨some 2, none, .mov (.t 20)⟩])
.ret) (.seq (.region [⟨some 22, none, .bin .eql (.t 4) (.c (.int .i64 6))⟩, ⟨some 21, none, .mov (.t 22)⟩])
(.cond (.t 21) (.seq (.region [⟨some 23, none, .loadN 8 (.t 1)⟩, ⟨some 24, none, .build [(.int .i64 0), (.int .i64 0), (.int .i64 0), (.int .i64 0), (.int .i64 0), (.int .i64 0), (.str []), .nilSlice] [(0, 8, (.t 23))]⟩, ⟨some 25, none, .mkIface 303 (.t 24)⟩, ⟨some 2, none, .mov (.t 25)⟩])
.ret) (.seq (.region [⟨some 27, none, .bin .eql (.t 4) (.c (.int .i64 7))⟩, ⟨some 26, none, .mov (.t 27)⟩])
(.cond (.t 26) (.seq (.region [⟨some 28, none, .loadN 8 (.t 1)⟩, ⟨some 29, none, .build [(.int .i64 0), (.int .i64 0), (.int .i64 0), (.int .i64 0), (.int .i64 0), (.int .i64 0), (.str []), .nilSlice] [(0, 8, (.t 28))]⟩, ⟨some 30, none, .mkIface 304 (.t 29)⟩, ⟨some 2, none, .mov (.t 30)⟩])
.ret) (.seq (.region [⟨some 32, none, .bin .eql (.t 4) (.c (.int .i64 8))⟩, ⟨some 31, none, .mov (.t 32)⟩])
(.cond (.t 31) (.seq (.region [⟨some 33, none, .loadN 8 (.t 1)⟩, ⟨some 34, none, .build [(.int .i64 0), (.int .i64 0), (.int .i64 0), (.int .i64 0), (.int .i64 0), (.int .i64 0), (.str []), .nilSlice] [(0, 8, (.t 33))]⟩, ⟨some 35, none, .mkIface 305 (.t 34)⟩, ⟨some 2, none, .mov (.t 35)⟩])
.ret) (.seq (.region [⟨some 37, none, .bin .eql (.t 4) (.c (.int .i64 9))⟩, ⟨some 36, none, .mov (.t 37)⟩])
(.cond (.t 36) (.seq (.region [⟨some 38, none, .loadN 8 (.t 1)⟩, ⟨some 39, none, .build [(.int .i64 0), (.int .i64 0), (.int .i64 0), (.int .i64 0), (.int .i64 0), (.int .i64 0), (.str []), .nilSlice] [(0, 8, (.t 38))]⟩, ⟨some 40, none, .mkIface 306 (.t 39)⟩, ⟨some 2, none, .mov (.t 40)⟩])
.ret) (.seq (.seq (.region [⟨some 42, none, .bin .eql (.t 4) (.c (.int .i64 2))⟩, ⟨some 41, none, .mov (.t 42)⟩])
(.cond (.t 41) .skip (.seq (.region [⟨some 43, none, .bin .eql (.t 4) (.c (.int .i64 10))⟩, ⟨some 41, none, .mov (.t 43)⟩])
(.cond (.t 41) .skip (.seq (.region [⟨some 44, none, .bin .eql (.t 4) (.c (.int .i64 11))⟩, ⟨some 41, none, .mov (.t 44)⟩])
(.cond (.t 41) .skip (.region [⟨some 45, none, .bin .eql (.t 4) (.c (.int .i64 24))⟩, ⟨some 41, none, .mov (.t 45)⟩])))))))
(.cond (.t 41) (.seq (.region [⟨some 46, none, .loadN 8 (.t 1)⟩, ⟨some 47, none, .build [(.int .i64 0), (.int .i64 0), (.int .i64 0), (.int .i64 0), (.int .i64 0), (.int .i64 0), (.str []), .nilSlice] [(0, 8, (.t 46))]⟩, ⟨some 48, none, .mkIface 307 (.t 47)⟩, ⟨some 2, none, .mov (.t 48)⟩])
.ret) (.seq (.seq (.region [⟨some 50, none, .bin .eql (.t 4) (.c (.int .i64 12))⟩, ⟨some 49, none, .mov (.t 50)⟩])
(.cond (.t 49) .skip (.seq (.region [⟨some 51, none, .bin .eql (.t 4) (.c (.int .i64 13))⟩, ⟨some 49, none, .mov (.t 51)⟩])
(.cond (.t 49) .skip (.seq (.region [⟨some 52, none, .bin .eql (.t 4) (.c (.int .i64 14))⟩, ⟨some 49, none, .mov (.t 52)⟩])
(.cond (.t 49) .skip (.region [⟨some 53, none, .bin .eql (.t 4) (.c (.int .i64 15))⟩, ⟨some 49, none, .mov (.t 53)⟩])))))))
(.cond (.t 49) (.seq (.region [⟨some 54, none, .loadN 8 (.t 1)⟩, ⟨some 55, none, .build [(.int .i64 0), (.int .i64 0), (.int .i64 0), (.int .i64 0), (.int .i64 0), (.int .i64 0), (.str []), .nilSlice] [(0, 8, (.t 54))]⟩, ⟨some 56, none, .mkIface 308 (.t 55)⟩, ⟨some 2, none, .mov (.t 56)⟩])
.ret) (.seq (.region [⟨some 58, none, .bin .eql (.t 4) (.c (.int .i64 16))⟩, ⟨some 57, none, .mov (.t 58)⟩])
(.cond (.t 57) (.seq (.region [⟨some 59, none, .loadN 8 (.t 1)⟩, ⟨some 60, none, .build [(.int .i64 0), (.int .i64 0), (.int .i64 0), (.int .i64 0), (.int .i64 0), (.int .i64 0), (.str []), .nilSlice] [(0, 8, (.t 59))]⟩, ⟨some 61, none, .mkIface 309 (.t 60)⟩, ⟨some 2, none, .mov (.t 61)⟩])
.ret) (.seq (.region [⟨some 63, none, .bin .eql (.t 4) (.c (.int .i64 17))⟩, ⟨some 62, none, .mov (.t 63)⟩])
(.cond (.t 62) (.seq (.region [⟨some 64, none, .loadN 8 (.t 1)⟩, ⟨some 65, none, .build [(.int .i64 0), (.int .i64 0), (.int .i64 0), (.int .i64 0), (.int .i64 0), (.int .i64 0), (.str []), .nilSlice] [(0, 8, (.t 64))]⟩, ⟨some 66, none, .mkIface 310 (.t 65)⟩, ⟨some 2, none, .mov (.t 66)⟩])
.ret) .skip))))))))))))))))))))))))
(.seq (.region [⟨some 67, none, .loadN 8 (.t 1)⟩, ⟨some 68, none, .build [(.int .i64 0), (.int .i64 0), (.int .i64 0), (.int .i64 0), (.int .i64 0), (.int .i64 0), (.str []), .nilSlice] [(0, 8, (.t 67))]⟩, ⟨some 69, none, .mkIface 311 (.t 68)⟩, ⟨some 2, none, .mov (.t 69)⟩])
.ret)))⟩
theorem ok103 : Fok 103 d103 := ⟨_, Tryz.func103, by kernel_rfl⟩
/- (*stint/seats.Seats).Mark -/
def d104 : DFunc := ⟨4, [.tmp 8], (.seq (.region [⟨some 8, none, .mov (.c (.int .i64 0))⟩])
(.seq (.region [⟨some 12, none, .mov (.t 0)⟩, ⟨some 13, none, .nilCheck (.t 12)⟩, ⟨some 14, none, .fieldAddr 0 (.t 13)⟩, ⟨some 15, none, .load1 (.t 14)⟩, ⟨some 16, none, .mov (.t 1)⟩, ⟨some 17, none, .lookup false .nilPtr (.t 15) (.t 16) true⟩, ⟨some 11, none, .mov (.t 17)⟩, ⟨some 18, none, .extract (.t 11) 0⟩, ⟨some 19, none, .extract (.t 11) 1⟩, ⟨some 9, none, .mov (.t 18)⟩, ⟨some 10, none, .mov (.t 19)⟩])
(.seq (.seq (.region [⟨some 20, none, .mov (.t 10)⟩, ⟨some 21, none, .un .not (.t 20)⟩])
(.cond (.t 21) (.seq (.region [⟨some 8, none, .mov (.c (.int .i64 162))⟩])
.ret) .skip))
(.seq (.region [⟨some 22, none, .mov (.t 9)⟩, ⟨some 23, none, .mov (.t 9)⟩, ⟨some 24, none, .nilCheck (.t 23)⟩, ⟨some 25, none, .fieldAddr 4 (.t 24)⟩, ⟨some 26, none, .load1 (.t 25)⟩, ⟨some 27, none, .mov (.t 26)⟩, ⟨some 28, some (27, false), .mov (.t 2)⟩, ⟨some 29, none, .pick (.t 27) (.c (.bool true)) (.t 28)⟩, ⟨some 30, none, .nilCheck (.t 22)⟩, ⟨some 31, none, .fieldAddr 4 (.t 30)⟩, ⟨none, none, .store 1 (.t 31) (.t 29)⟩])
(.seq (.region [⟨some 32, none, .mov (.t 9)⟩, ⟨some 33, none, .mov (.t 9)⟩, ⟨some 34, none, .nilCheck (.t 33)⟩, ⟨some 35, none, .fieldAddr 5 (.t 34)⟩, ⟨some 36, none, .load1 (.t 35)⟩, ⟨some 37, none, .mov (.t 36)⟩, ⟨some 38, some (37, false), .mov (.t 3)⟩, ⟨some 39, none, .pick (.t 37) (.c (.bool true)) (.t 38)⟩, ⟨some 40, none, .nilCheck (.t 32)⟩, ⟨some 41, none, .fieldAddr 5 (.t 40)⟩, ⟨none, none, .store 1 (.t 41) (.t 39)⟩])
(.seq (.region [⟨some 8, none, .mov (.c (.int .i64 0))⟩])
.ret))))))⟩
theorem ok104 : Fok 104 d104 := ⟨_, Tryz.func104, by kernel_rfl⟩
/- stint/names.may -/
def d105 : DFunc := ⟨1, [.tmp 2], (.seq (.region [⟨some 2, none, .mov (.c (.bool false))⟩])
(.seq (.block 0 (.seq (.seq (.region [⟨some 4, none, .mov (.t 0)⟩, ⟨some 5, none, .bin .geq (.t 4) (.c (.int .u8 97))⟩, ⟨some 6, none, .mov (.t 5)⟩, ⟨some 7, some (6, true), .mov (.t 0)⟩, ⟨some 8, some (6, true), .bin .leq (.t 7) (.c (.int .u8 122))⟩, ⟨some 9, none, .pick (.t 6) (.t 8) (.c (.bool false))⟩, ⟨some 3, none, .mov (.t 9)⟩])
(.cond (.t 3) .skip (.seq (.region [⟨some 10, none, .mov (.t 0)⟩, ⟨some 11, none, .bin .geq (.t 10) (.c (.int .u8 65))⟩, ⟨some 12, none, .mov (.t 11)⟩, ⟨some 13, some (12, true), .mov (.t 0)⟩, ⟨some 14, some (12, true), .bin .leq (.t 13) (.c (.int .u8 90))⟩, ⟨some 15, none, .pick (.t 12) (.t 14) (.c (.bool false))⟩, ⟨some 3, none, .mov (.t 15)⟩])
(.cond (.t 3) .skip (.region [⟨some 16, none, .mov (.t 0)⟩, ⟨some 17, none, .bin .geq (.t 16) (.c (.int .u8 48))⟩, ⟨some 18, none, .mov (.t 17)⟩, ⟨some 19, some (18, true), .mov (.t 0)⟩, ⟨some 20, some (18, true), .bin .leq (.t 19) (.c (.int .u8 57))⟩, ⟨some 21, none, .pick (.t 18) (.t 20) (.c (.bool false))⟩, ⟨some 3, none, .mov (.t 21)⟩])))))
(.cond (.t 3) (.seq (.region [⟨some 2, none, .mov (.c (.bool true))⟩])
.ret) .skip)))
(.seq (.region [⟨some 22, none, .mov (.t 0)⟩, ⟨some 23, none, .callF 140 [(.c (.str [45, 43, 47, 59, 46, 36, 95, 40, 41])), (.t 22)]⟩, ⟨some 24, none, .bin .geq (.t 23) (.c (.int .i64 0))⟩, ⟨some 2, none, .mov (.t 24)⟩])
.ret)))⟩
theorem ok105 : Fok 105 d105 := ⟨_, Tryz.func105, by kernel_rfl⟩
/- internal/strconv.Itoa -/
def d106 : DFunc := ⟨1, [.tmp 2], (.seq (.region [⟨some 2, none, .mov (.c (.str []))⟩])
(.seq (.region [⟨some 3, none, .mov (.t 0)⟩, ⟨some 4, none, .callF 141 [(.t 3), (.c (.int .i64 10))]⟩, ⟨some 2, none, .mov (.t 4)⟩])
.ret))⟩
theorem ok106 : Fok 106 d106 := ⟨_, Tryz.func106, by kernel_rfl⟩
/- stint/digits.Word -/
def d107 : DFunc := ⟨1, [.tmp 2], (.seq (.region [⟨some 2, none, .mov (.c (.bool false))⟩])
(.seq (.seq (.region [⟨some 5, none, .mov (.t 0)⟩, ⟨some 6, none, .rangeStr (.t 5)⟩])
(.block 0 (.loop (.seq (.region [⟨some 7, none, .nextStr (.t 6)⟩, ⟨some 8, none, .extract (.t 7) 0⟩])
(.seq (.cond (.t 8) .skip (.exit 0))
(.block 1 (.seq (.region [⟨some 9, none, .extract (.t 7) 2⟩, ⟨some 4, none, .mov (.t 9)⟩])
(.seq (.region [⟨some 10, none, .mov (.t 4)⟩, ⟨some 11, none, .bin .lss (.t 10) (.c (.int .i32 33))⟩, ⟨some 12, none, .mov (.t 11)⟩, ⟨some 13, some (12, false), .mov (.t 4)⟩, ⟨some 14, some (12, false), .bin .gtr (.t 13) (.c (.int .i32 126))⟩, ⟨some 15, none, .pick (.t 12) (.c (.bool true)) (.t 14)⟩])
(.cond (.t 15) (.seq (.region [⟨some 2, none, .mov (.c (.bool false))⟩])
.ret) .skip)))))))))
(.seq (.region [⟨some 16, none, .mov (.t 0)⟩, ⟨some 17, none, .bin .neq (.t 16) (.c (.str []))⟩, ⟨some 2, none, .mov (.t 17)⟩])
.ret)))⟩
theorem ok107 : Fok 107 d107 := ⟨_, Tryz.func107, by kernel_rfl⟩
/- stint/heap.New[stint/yard.spot] -/
def d112 : DFunc := ⟨1, [.tmp 2], (.seq (.region [⟨some 2, none, .mov (.c .nilPtr)⟩])
(.seq (.seq (.region [⟨some 3, none, .mov (.t 0)⟩, ⟨some 4, none, .eqv false (.ref 2) (.t 3) (.c .nilFunc)⟩])
(.cond (.t 4) (.seq (.region [⟨some 2, none, .mov (.c .nilPtr)⟩])
.ret) .skip))
(.seq (.region [⟨some 5, none, .mov (.t 0)⟩, ⟨some 6, none, .mkMap⟩, ⟨some 7, none, .build [.nilFunc, .nilSlice, .nilMap, (.int .i64 0)] [(0, 1, (.t 5)), (2, 1, (.t 6))]⟩, ⟨some 8, none, .box (.t 7)⟩, ⟨some 2, none, .mov (.t 8)⟩])
.ret)))⟩
theorem ok112 : Fok 112 d112 := ⟨_, Tryz.func112, by kernel_rfl⟩
/- (*stint/ledger.Ledger).lay -/
def d114 : DFunc := ⟨2, [], (.seq (.region [⟨some 3, none, .box (.t 1)⟩])
(.seq (.region [⟨some 9, none, .mov (.t 0)⟩, ⟨some 10, none, .callF 89 [(.t 9)]⟩, ⟨some 4, none, .mov (.t 10)⟩])
(.seq (.region [⟨some 12, none, .loadN 19 (.t 3)⟩, ⟨some 13, none, .callF 149 [(.t 12)]⟩, ⟨some 11, none, .mov (.t 13)⟩, ⟨some 14, none, .extract (.t 11) 0⟩, ⟨some 15, none, .extract (.t 11) 1⟩, ⟨some 5, none, .mov (.t 14)⟩, ⟨some 6, none, .mov (.t 15)⟩])
(.seq (.draw [(⟨some 17, none, .mov (.t 4)⟩, .pure), (⟨some 18, none, .nilCheck (.t 17)⟩, .pure), (⟨some 19, none, .fieldAddr 0 (.t 18)⟩, .pure), (⟨some 20, none, .load1 (.t 19)⟩, .read [9]), (⟨some 21, none, .mov (.t 4)⟩, .pure), (⟨some 22, none, .nilCheck (.t 21)⟩, .pure), (⟨some 23, none, .fieldAddr 1 (.t 22)⟩, .pure), (⟨some 24, none, .load1 (.t 23)⟩, .read [9]), (⟨some 25, none, .mov (.t 5)⟩, .pure), (⟨some 26, none, .callF 150 [(.t 20), (.t 24), (.t 25)]⟩, .alone 9), (⟨some 16, none, .mov (.t 26)⟩, .pure), (⟨some 27, none, .extract (.t 16) 0⟩, .pure), (⟨some 28, none, .extract (.t 16) 1⟩, .pure), (⟨some 7, none, .mov (.t 27)⟩, .pure), (⟨some 8, none, .mov (.t 28)⟩, .pure)])
(.seq (.draw [(⟨some 29, none, .mov (.t 0)⟩, .pure), (⟨some 30, none, .mov (.t 0)⟩, .pure), (⟨some 31, none, .nilCheck (.t 30)⟩, .pure), (⟨some 32, none, .fieldAddr 8 (.t 31)⟩, .pure), (⟨some 33, none, .load1 (.t 32)⟩, .read [15, 12]), (⟨some 34, none, .mov (.t 4)⟩, .pure), (⟨some 35, none, .nilCheck (.t 34)⟩, .pure), (⟨some 36, none, .fieldAddr 0 (.t 35)⟩, .pure), (⟨some 37, none, .load1 (.t 36)⟩, .read [15, 12, 11, 10]), (⟨some 38, none, .mov (.t 7)⟩, .pure), (⟨some 39, none, .build [(.int .i64 0), (.int .i64 0), .nilSlice, (.int .i64 0)] [(0, 1, (.c (.int .i64 2))), (1, 1, (.t 37)), (2, 1, (.t 38))]⟩, .alone 10), (⟨some 40, none, .buildSlice 1 [(.int .i64 0), (.int .i64 0), .nilSlice, (.int .i64 0)] [(0, 4, (.t 39))]⟩, .alone 11), (⟨some 41, none, .append 4 48 [] (.t 33) (.t 40)⟩, .alone 12), (⟨some 42, none, .nilCheck (.t 29)⟩, .pure), (⟨some 43, none, .fieldAddr 8 (.t 42)⟩, .pure), (⟨none, none, .store 1 (.t 43) (.t 41)⟩, .alone 15)])
(.region [⟨some 44, none, .mov (.t 4)⟩, ⟨some 45, none, .nilCheck (.t 44)⟩, ⟨some 46, none, .fieldAddr 1 (.t 45)⟩, ⟨some 47, none, .load1 (.t 46)⟩, ⟨some 48, none, .mov (.t 7)⟩, ⟨some 49, none, .lenSl (.t 48)⟩, ⟨some 50, none, .bin .add (.t 47) (.t 49)⟩, ⟨some 51, none, .nilCheck (.t 44)⟩, ⟨some 52, none, .fieldAddr 1 (.t 51)⟩, ⟨none, none, .store 1 (.t 52) (.t 50)⟩]))))))⟩
theorem ok114 : Fok 114 d114 := ⟨_, Tryz.func114, by kernel_rfl⟩
/- stint/seats.rising -/
def d115 : DFunc := ⟨1, [.tmp 2], (.seq (.region [⟨some 2, none, .mov (.c .nilSlice)⟩])
(.seq (.region [⟨some 3, none, .mov (.c .nilSlice)⟩])
(.seq (.seq (.region [⟨some 5, none, .mov (.t 0)⟩, ⟨some 6, none, .rangeMap (.t 5)⟩])
(.block 0 (.loop (.seq (.region [⟨some 7, none, .nextMap (.t 6)⟩, ⟨some 8, none, .extract (.t 7) 0⟩])
(.seq (.cond (.t 8) .skip (.exit 0))
(.block 1 (.seq (.region [⟨some 9, none, .entry (.t 6)⟩, ⟨some 10, none, .extract (.t 9) 0⟩, ⟨some 4, none, .mov (.t 10)⟩])
(.region [⟨some 11, none, .mov (.t 3)⟩, ⟨some 12, none, .mov (.t 4)⟩, ⟨some 13, none, .buildSlice 1 [(.str [])] [(0, 1, (.t 12))]⟩, ⟨some 14, none, .append 1 16 [] (.t 11) (.t 13)⟩, ⟨some 3, none, .mov (.t 14)⟩]))))))))
(.seq (.region [⟨some 15, none, .mov (.t 3)⟩, ⟨some 16, none, .callF 151 [(.t 15)]⟩])
(.seq (.region [⟨some 17, none, .mov (.t 3)⟩, ⟨some 2, none, .mov (.t 17)⟩])
.ret)))))⟩
theorem ok115 : Fok 115 d115 := ⟨_, Tryz.func115, by kernel_rfl⟩
/- (*stint/intake.Intake).Next -/
def d116 : DFunc := ⟨1, [.cell 2 3 true, .tmp 3], (.seq (.region [⟨some 2, none, .alloc [(.int .i64 0), (.str []), .nilSlice]⟩, ⟨some 3, none, .mov (.c (.bool false))⟩])
(.seq (.region [⟨some 4, none, .alloc [(.int .i64 0), (.str []), .nilSlice]⟩])
(.seq .skip
(.seq (.block 0 (.loop (.block 1 (.seq (.region [⟨some 6, none, .mov (.t 0)⟩, ⟨some 7, none, .nilCheck (.t 6)⟩, ⟨some 8, none, .fieldAddr 1 (.t 7)⟩, ⟨some 9, none, .load1 (.t 8)⟩])
(.block 2 (.seq (.region [⟨some 11, none, .bin .eql (.t 9) (.c (.int .i64 0))⟩, ⟨some 10, none, .mov (.t 11)⟩])
(.cond (.t 10) (.seq (.seq (.draw [(⟨some 12, none, .mov (.t 0)⟩, .pure), (⟨some 13, none, .nilCheck (.t 12)⟩, .pure), (⟨some 14, none, .fieldAddr 2 (.t 13)⟩, .pure), (⟨some 15, none, .load1 (.t 14)⟩, .read [12]), (⟨some 16, none, .mov (.t 0)⟩, .pure), (⟨some 17, none, .nilCheck (.t 16)⟩, .pure), (⟨some 18, none, .fieldAddr 2 (.t 17)⟩, .pure), (⟨some 19, none, .load1 (.t 18)⟩, .read [12]), (⟨some 20, none, .lenSl (.t 19)⟩, .pure), (⟨some 21, none, .minmax false [(.c (.int .i64 224)), (.t 20)]⟩, .pure), (⟨some 22, none, .sliceSl 1 (.t 15) none (some (.t 21)) none⟩, .pure), (⟨some 23, none, .buildSlice 2 [(.int .u8 0), (.int .u8 0)] [(0, 1, (.c (.int .u8 13))), (1, 1, (.c (.int .u8 10)))]⟩, .alone 11), (⟨some 24, none, .callF 152 [(.t 22), (.t 23)]⟩, .alone 12), (⟨some 5, none, .mov (.t 24)⟩, .pure)])
(.seq (.region [⟨some 25, none, .mov (.t 5)⟩, ⟨some 26, none, .bin .geq (.t 25) (.c (.int .i64 0))⟩])
(.cond (.t 26) (.seq (.region [⟨some 27, none, .mov (.t 0)⟩, ⟨some 28, none, .mov (.t 5)⟩, ⟨some 29, none, .bin .add (.t 28) (.c (.int .i64 2))⟩, ⟨some 30, none, .callF 153 [(.t 27), (.t 29)]⟩, ⟨some 31, none, .mov (.t 5)⟩, ⟨some 32, none, .sliceSl 1 (.t 30) none (some (.t 31)) none⟩, ⟨some 33, none, .bytesStr (.t 32)⟩, ⟨some 34, none, .build [(.int .i64 0), (.str []), .nilSlice] [(0, 1, (.c (.int .i64 1))), (1, 1, (.t 33))]⟩, ⟨none, none, .store 3 (.t 4) (.t 34)⟩])
(.exit 0)) .skip)))
(.seq (.seq (.region [⟨some 35, none, .mov (.t 0)⟩, ⟨some 36, none, .nilCheck (.t 35)⟩, ⟨some 37, none, .fieldAddr 2 (.t 36)⟩, ⟨some 38, none, .load1 (.t 37)⟩, ⟨some 39, none, .lenSl (.t 38)⟩, ⟨some 40, none, .bin .lss (.t 39) (.c (.int .i64 224))⟩])
(.cond (.t 40) (.seq (.region [⟨some 41, none, .build [(.int .i64 0), (.str []), .nilSlice] []⟩, ⟨none, none, .store 3 (.t 2) (.t 41)⟩, ⟨some 3, none, .mov (.c (.bool false))⟩])
.ret) .skip))
(.seq (.region [⟨some 42, none, .mov (.t 0)⟩, ⟨some 43, none, .mov (.t 0)⟩, ⟨some 44, none, .mov (.t 0)⟩, ⟨some 45, none, .nilCheck (.t 42)⟩, ⟨some 46, none, .fieldAddr 1 (.t 45)⟩, ⟨none, none, .store 1 (.t 46) (.c (.int .i64 1))⟩, ⟨some 47, none, .nilCheck (.t 43)⟩, ⟨some 48, none, .fieldAddr 5 (.t 47)⟩, ⟨none, none, .store 1 (.t 48) (.c (.bool false))⟩, ⟨some 49, none, .nilCheck (.t 44)⟩, ⟨some 50, none, .fieldAddr 6 (.t 49)⟩, ⟨none, none, .store 1 (.t 50) (.c (.bool false))⟩])
(.region [⟨some 51, none, .mov (.t 0)⟩, ⟨some 52, none, .mov (.t 0)⟩, ⟨some 53, none, .mov (.t 0)⟩, ⟨some 54, none, .nilCheck (.t 53)⟩, ⟨some 55, none, .fieldAddr 2 (.t 54)⟩, ⟨some 56, none, .load1 (.t 55)⟩, ⟨some 57, none, .lenSl (.t 56)⟩, ⟨some 58, none, .callF 153 [(.t 52), (.t 57)]⟩, ⟨some 59, none, .callF 117 [(.t 51), (.t 58)]⟩])))) (.seq (.region [⟨some 61, none, .bin .eql (.t 9) (.c (.int .i64 1))⟩, ⟨some 60, none, .mov (.t 61)⟩])
(.cond (.t 60) (.seq (.seq (.region [⟨some 62, none, .mov (.t 0)⟩, ⟨some 63, none, .nilCheck (.t 62)⟩, ⟨some 64, none, .fieldAddr 6 (.t 63)⟩, ⟨some 65, none, .load1 (.t 64)⟩, ⟨some 66, none, .un .not (.t 65)⟩])
(.cond (.t 66) (.seq (.region [⟨some 67, none, .build [(.int .i64 0), (.str []), .nilSlice] []⟩, ⟨none, none, .store 3 (.t 2) (.t 67)⟩, ⟨some 3, none, .mov (.c (.bool false))⟩])
.ret) .skip))
(.seq (.region [⟨some 68, none, .build [(.int .i64 0), (.str []), .nilSlice] [(0, 1, (.c (.int .i64 2)))]⟩, ⟨none, none, .store 3 (.t 4) (.t 68)⟩])
(.exit 0))) (.seq (.region [⟨some 70, none, .bin .eql (.t 9) (.c (.int .i64 2))⟩, ⟨some 69, none, .mov (.t 70)⟩])
(.cond (.t 69) (.seq (.seq (.draw [(⟨some 71, none, .mov (.t 0)⟩, .pure), (⟨some 72, none, .nilCheck (.t 71)⟩, .pure), (⟨some 73, none, .fieldAddr 2 (.t 72)⟩, .pure), (⟨some 74, none, .load1 (.t 73)⟩, .read []), (⟨some 75, none, .lenSl (.t 74)⟩, .pure), (⟨some 76, none, .mov (.t 0)⟩, .pure), (⟨some 77, none, .nilCheck (.t 76)⟩, .pure), (⟨some 78, none, .fieldAddr 3 (.t 77)⟩, .pure), (⟨some 79, none, .load1 (.t 78)⟩, .read []), (⟨some 80, none, .bin .add (.t 79) (.c (.int .i64 2))⟩, .pure), (⟨some 81, none, .bin .lss (.t 75) (.t 80)⟩, .pure)])
(.cond (.t 81) (.seq (.region [⟨some 82, none, .build [(.int .i64 0), (.str []), .nilSlice] []⟩, ⟨none, none, .store 3 (.t 2) (.t 82)⟩, ⟨some 3, none, .mov (.c (.bool false))⟩])
.ret) .skip))
(.seq (.region [⟨some 83, none, .mov (.t 0)⟩, ⟨some 84, none, .mov (.t 0)⟩, ⟨some 85, none, .nilCheck (.t 84)⟩, ⟨some 86, none, .fieldAddr 3 (.t 85)⟩, ⟨some 87, none, .load1 (.t 86)⟩, ⟨some 88, none, .bin .add (.t 87) (.c (.int .i64 2))⟩, ⟨some 89, none, .callF 153 [(.t 83), (.t 88)]⟩, ⟨some 90, none, .callF 154 [(.t 89)]⟩, ⟨none, none, .store 3 (.t 4) (.t 90)⟩])
(.exit 0))) (.seq (.region [⟨some 92, none, .bin .eql (.t 9) (.c (.int .i64 3))⟩, ⟨some 91, none, .mov (.t 92)⟩])
(.cond (.t 91) (.seq (.seq (.region [⟨some 93, none, .mov (.t 0)⟩, ⟨some 94, none, .nilCheck (.t 93)⟩, ⟨some 95, none, .fieldAddr 4 (.t 94)⟩, ⟨some 96, none, .load1 (.t 95)⟩, ⟨some 97, none, .bin .gtr (.t 96) (.c (.int .i64 0))⟩])
(.cond (.t 97) (.seq (.region [⟨some 98, none, .build [(.int .i64 0), (.str []), .nilSlice] []⟩, ⟨none, none, .store 3 (.t 2) (.t 98)⟩, ⟨some 3, none, .mov (.c (.bool false))⟩])
.ret) .skip))
(.seq (.region [⟨some 99, none, .build [(.int .i64 0), (.str []), .nilSlice] [(0, 1, (.c (.int .i64 4)))]⟩, ⟨none, none, .store 3 (.t 4) (.t 99)⟩])
(.exit 0))) .skip)))))))))))))
(.seq (.region [⟨some 100, none, .mov (.t 0)⟩, ⟨some 101, none, .nilCheck (.t 100)⟩, ⟨some 102, none, .fieldAddr 1 (.t 101)⟩, ⟨none, none, .store 1 (.t 102) (.c (.int .i64 0))⟩])
(.seq (.region [⟨some 103, none, .loadN 3 (.t 4)⟩, ⟨none, none, .store 3 (.t 2) (.t 103)⟩, ⟨some 3, none, .mov (.c (.bool true))⟩])
.ret))))))⟩
theorem ok116 : Fok 116 d116 := ⟨_, Tryz.func116, by kernel_rfl⟩
/- (*stint/intake.Intake).Feed -/
def d117 : DFunc := ⟨2, [], (.seq (.block 0 (.seq (.region [⟨some 5, none, .mov (.t 0)⟩, ⟨some 6, none, .nilCheck (.t 5)⟩, ⟨some 7, none, .fieldAddr 1 (.t 6)⟩, ⟨some 8, none, .load1 (.t 7)⟩, ⟨some 9, none, .bin .eql (.t 8) (.c (.int .i64 1))⟩, ⟨some 10, none, .mov (.t 9)⟩, ⟨some 11, some (10, true), .mov (.t 0)⟩, ⟨some 12, some (10, true), .nilCheck (.t 11)⟩, ⟨some 13, some (10, true), .fieldAddr 6 (.t 12)⟩, ⟨some 14, some (10, true), .load1 (.t 13)⟩, ⟨some 15, some (10, true), .un .not (.t 14)⟩, ⟨some 16, none, .pick (.t 10) (.t 15) (.c (.bool false))⟩, ⟨some 4, none, .mov (.t 16)⟩])
(.cond (.t 4) (.region [⟨some 17, none, .mov (.t 0)⟩, ⟨some 18, none, .mov (.t 1)⟩, ⟨some 19, none, .callF 155 [(.t 17), (.t 18)]⟩, ⟨some 1, none, .mov (.t 19)⟩]) (.seq (.region [⟨some 21, none, .mov (.t 0)⟩, ⟨some 22, none, .nilCheck (.t 21)⟩, ⟨some 23, none, .fieldAddr 1 (.t 22)⟩, ⟨some 24, none, .load1 (.t 23)⟩, ⟨some 25, none, .bin .eql (.t 24) (.c (.int .i64 3))⟩, ⟨some 20, none, .mov (.t 25)⟩])
(.cond (.t 20) (.region [⟨some 26, none, .mov (.t 0)⟩, ⟨some 27, none, .mov (.t 1)⟩, ⟨some 28, none, .callF 123 [(.t 26), (.t 27)]⟩, ⟨some 1, none, .mov (.t 28)⟩]) .skip)))))
(.region [⟨some 29, none, .mov (.t 0)⟩, ⟨some 30, none, .mov (.t 0)⟩, ⟨some 31, none, .nilCheck (.t 30)⟩, ⟨some 32, none, .fieldAddr 2 (.t 31)⟩, ⟨some 33, none, .load1 (.t 32)⟩, ⟨some 34, none, .mov (.t 1)⟩, ⟨some 35, none, .append 1 1 [] (.t 33) (.t 34)⟩, ⟨some 36, none, .nilCheck (.t 29)⟩, ⟨some 37, none, .fieldAddr 2 (.t 36)⟩, ⟨none, none, .store 1 (.t 37) (.t 35)⟩]))⟩
theorem ok117 : Fok 117 d117 := ⟨_, Tryz.func117, by kernel_rfl⟩
/- (*stint/intake.Intake).Held -/
def d118 : DFunc := ⟨1, [.tmp 2], (.seq (.region [⟨some 2, none, .mov (.c (.int .i64 0))⟩])
(.seq (.region [⟨some 3, none, .mov (.t 0)⟩, ⟨some 4, none, .nilCheck (.t 3)⟩, ⟨some 5, none, .fieldAddr 2 (.t 4)⟩, ⟨some 6, none, .load1 (.t 5)⟩, ⟨some 7, none, .lenSl (.t 6)⟩, ⟨some 2, none, .mov (.t 7)⟩])
.ret))⟩
theorem ok118 : Fok 118 d118 := ⟨_, Tryz.func118, by kernel_rfl⟩
/- strings.Cut -/
def d119 : DFunc := ⟨2, [.tmp 4, .tmp 5, .tmp 6], (.seq (.region [⟨some 4, none, .mov (.c (.str []))⟩, ⟨some 5, none, .mov (.c (.str []))⟩, ⟨some 6, none, .mov (.c (.bool false))⟩])
(.seq (.region [⟨some 7, none, .mov (.t 0)⟩, ⟨some 8, none, .mov (.t 1)⟩, ⟨some 9, none, .callF 156 [(.t 7), (.t 8)]⟩, ⟨some 10, none, .extract (.t 9) 0⟩, ⟨some 11, none, .extract (.t 9) 1⟩, ⟨some 12, none, .extract (.t 9) 2⟩, ⟨some 4, none, .mov (.t 10)⟩, ⟨some 5, none, .mov (.t 11)⟩, ⟨some 6, none, .mov (.t 12)⟩])
.ret))⟩
theorem ok119 : Fok 119 d119 := ⟨_, Tryz.func119, by kernel_rfl⟩
/- stint/verbs.kindOf -/
def d120 : DFunc := ⟨1, [.tmp 2], (.seq (.region [⟨some 2, none, .mov (.c (.int .i64 0))⟩])
(.seq (.seq (.region [⟨some 5, none, .callF 66 []⟩, ⟨some 6, none, .mov (.c (.int .i64 0))⟩])
(.block 0 (.loop (.seq (.region [⟨some 7, none, .bin .lss (.t 6) (.c (.int .i64 26))⟩])
(.seq (.cond (.t 7) .skip (.exit 0))
(.seq (.block 1 (.seq (.region [⟨some 8, none, .mov (.t 6)⟩, ⟨some 9, none, .indexArr 26 2 true (.t 5) (.t 6)⟩, ⟨some 4, none, .alloc [(.str []), (.str [])]⟩, ⟨some 3, none, .mov (.t 8)⟩, ⟨none, none, .store 2 (.t 4) (.t 9)⟩])
(.seq (.region [⟨some 10, none, .mov (.t 3)⟩, ⟨some 11, none, .bin .gtr (.t 10) (.c (.int .i64 0))⟩, ⟨some 12, none, .mov (.t 11)⟩, ⟨some 13, some (12, true), .fieldAddr 0 (.t 4)⟩, ⟨some 14, some (12, true), .load1 (.t 13)⟩, ⟨some 15, some (12, true), .mov (.t 0)⟩, ⟨some 16, some (12, true), .bin .eql (.t 14) (.t 15)⟩, ⟨some 17, none, .pick (.t 12) (.t 16) (.c (.bool false))⟩])
(.cond (.t 17) (.seq (.region [⟨some 18, none, .mov (.t 3)⟩, ⟨some 2, none, .mov (.t 18)⟩])
.ret) .skip))))
(.region [⟨some 19, none, .bin .add (.t 6) (.c (.int .i64 1))⟩, ⟨some 6, none, .mov (.t 19)⟩])))))))
(.seq (.region [⟨some 2, none, .mov (.c (.int .i64 0))⟩])
.ret)))⟩
theorem ok120 : Fok 120 d120 := ⟨_, Tryz.func120, by kernel_rfl⟩
/- stint/digits.Split -/
def d121 : DFunc := ⟨1, [.tmp 2, .tmp 3], (.seq (.region [⟨some 2, none, .mov (.c .nilSlice)⟩, ⟨some 3, none, .mov (.c (.bool false))⟩])
(.seq (.region [⟨some 5, none, .mov (.t 0)⟩, ⟨some 6, none, .callF 157 [(.t 5), (.c (.str [32]))]⟩, ⟨some 4, none, .mov (.t 6)⟩])
(.seq (.seq (.region [⟨some 7, none, .mov (.t 4)⟩, ⟨some 8, none, .callF 82 [(.t 7)]⟩, ⟨some 9, none, .un .not (.t 8)⟩])
(.cond (.t 9) (.seq (.region [⟨some 2, none, .mov (.c .nilSlice)⟩, ⟨some 3, none, .mov (.c (.bool false))⟩])
.ret) .skip))
(.seq (.region [⟨some 10, none, .mov (.t 4)⟩, ⟨some 2, none, .mov (.t 10)⟩, ⟨some 3, none, .mov (.c (.bool true))⟩])
.ret))))⟩
theorem ok121 : Fok 121 d121 := ⟨_, Tryz.func121, by kernel_rfl⟩
/- stint/verbs.read -/
def d122 : DFunc := ⟨3, [.tmp 6], (.seq (.region [⟨some 6, none, .mov (.c (.bool false))⟩])
(.seq (.seq (.region [⟨some 9, none, .mov (.t 1)⟩, ⟨some 10, none, .bin .eql (.t 9) (.c (.int .i64 6))⟩])
(.cond (.t 10) (.seq (.region [⟨some 11, none, .mov (.t 0)⟩, ⟨some 12, none, .mov (.t 2)⟩, ⟨some 13, none, .nilCheck (.t 11)⟩, ⟨some 14, none, .fieldAddr 6 (.t 13)⟩, ⟨none, none, .store 1 (.t 14) (.t 12)⟩])
(.seq (.region [⟨some 15, none, .mov (.t 2)⟩, ⟨some 16, none, .callF 79 [(.t 15)]⟩, ⟨some 6, none, .mov (.t 16)⟩])
.ret)) .skip))
(.seq (.region [⟨some 18, none, .mov (.t 2)⟩, ⟨some 19, none, .mov (.t 1)⟩, ⟨some 20, none, .callF 80 [(.t 19)]⟩, ⟨some 21, none, .callF 158 [(.t 18), (.t 20)]⟩, ⟨some 17, none, .mov (.t 21)⟩, ⟨some 22, none, .extract (.t 17) 0⟩, ⟨some 23, none, .extract (.t 17) 1⟩, ⟨some 7, none, .mov (.t 22)⟩, ⟨some 8, none, .mov (.t 23)⟩])
(.seq (.region [⟨some 24, none, .mov (.t 0)⟩, ⟨some 25, none, .mov (.t 1)⟩, ⟨some 26, none, .callF 59 [(.t 24), (.t 25)]⟩, ⟨some 27, none, .mov (.t 7)⟩, ⟨some 28, none, .nilCheck (.t 26)⟩, ⟨none, none, .store 1 (.t 28) (.t 27)⟩])
(.seq (.region [⟨some 29, none, .mov (.t 8)⟩, ⟨some 6, none, .mov (.t 29)⟩])
.ret)))))⟩
theorem ok122 : Fok 122 d122 := ⟨_, Tryz.func122, by kernel_rfl⟩
/- stint/answers.Check -/
def d124 : DFunc := ⟨1, [.tmp 2], (.seq (.region [⟨some 1, none, .box (.t 0)⟩, ⟨some 2, none, .mov (.c (.int .i64 0))⟩])
(.seq (.seq (.region [⟨some 7, none, .fieldAddr 0 (.t 1)⟩, ⟨some 8, none, .load1 (.t 7)⟩, ⟨some 9, none, .callF 125 [(.t 8)]⟩, ⟨some 10, none, .bin .eql (.t 9) (.c (.str []))⟩])
(.cond (.t 10) (.seq (.region [⟨some 2, none, .mov (.c (.int .i64 80))⟩])
.ret) .skip))
(.seq (.draw [(⟨some 11, none, .fieldAddr 1 (.t 1)⟩, .pure), (⟨some 12, none, .load1 (.t 11)⟩, .read []), (⟨some 13, none, .bin .eql (.t 12) (.c (.int .i64 0))⟩, .pure), (⟨some 14, none, .fieldAddr 2 (.t 1)⟩, .pure), (⟨some 15, none, .load1 (.t 14)⟩, .read []), (⟨some 16, none, .bin .eql (.t 15) (.c (.int .i64 0))⟩, .pure), (⟨some 17, none, .fieldAddr 3 (.t 1)⟩, .pure), (⟨some 18, none, .load1 (.t 17)⟩, .read []), (⟨some 19, none, .bin .eql (.t 18) (.c (.str []))⟩, .pure), (⟨some 20, none, .fieldAddr 4 (.t 1)⟩, .pure), (⟨some 21, none, .load1 (.t 20)⟩, .read []), (⟨some 22, none, .lenSl (.t 21)⟩, .pure), (⟨some 23, none, .bin .eql (.t 22) (.c (.int .i64 0))⟩, .pure), (⟨some 3, none, .mov (.t 13)⟩, .pure), (⟨some 4, none, .mov (.t 16)⟩, .pure), (⟨some 5, none, .mov (.t 19)⟩, .pure), (⟨some 6, none, .mov (.t 23)⟩, .pure)])
(.seq (.seq (.region [⟨some 24, none, .fieldAddr 0 (.t 1)⟩, ⟨some 25, none, .load1 (.t 24)⟩])
(.block 0 (.seq (.seq (.region [⟨some 27, none, .bin .eql (.t 25) (.c (.int .i64 3))⟩, ⟨some 26, none, .mov (.t 27)⟩])
(.cond (.t 26) .skip (.region [⟨some 28, none, .bin .eql (.t 25) (.c (.int .i64 12))⟩, ⟨some 26, none, .mov (.t 28)⟩])))
(.cond (.t 26) (.draw [(⟨some 29, none, .fieldAddr 1 (.t 1)⟩, .pure), (⟨some 30, none, .load1 (.t 29)⟩, .read [13]), (⟨some 31, none, .bin .geq (.t 30) (.c (.int .i64 1))⟩, .pure), (⟨some 32, none, .mov (.t 31)⟩, .pure), (⟨some 33, some (32, true), .fieldAddr 1 (.t 1)⟩, .pure), (⟨some 34, some (32, true), .load1 (.t 33)⟩, .read []), (⟨some 35, some (32, true), .bin .leq (.t 34) (.c (.int .i64 1099511627776))⟩, .pure), (⟨some 36, none, .pick (.t 32) (.t 35) (.c (.bool false))⟩, .pure), (⟨some 37, none, .fieldAddr 4 (.t 1)⟩, .pure), (⟨some 38, none, .load1 (.t 37)⟩, .read []), (⟨some 39, none, .lenSl (.t 38)⟩, .pure), (⟨some 40, none, .fieldAddr 0 (.t 1)⟩, .pure), (⟨some 41, none, .load1 (.t 40)⟩, .read [13]), (⟨some 42, none, .callF 146 [(.t 41)]⟩, .alone 13), (⟨some 43, none, .bin .leq (.t 39) (.t 42)⟩, .pure), (⟨some 3, none, .mov (.t 36)⟩, .pure), (⟨some 6, none, .mov (.t 43)⟩, .pure)]) (.seq (.region [⟨some 45, none, .bin .eql (.t 25) (.c (.int .i64 16))⟩, ⟨some 44, none, .mov (.t 45)⟩])
(.cond (.t 44) (.draw [(⟨some 46, none, .fieldAddr 4 (.t 1)⟩, .pure), (⟨some 47, none, .load1 (.t 46)⟩, .read []), (⟨some 48, none, .lenSl (.t 47)⟩, .pure), (⟨some 49, none, .fieldAddr 0 (.t 1)⟩, .pure), (⟨some 50, none, .load1 (.t 49)⟩, .read [5]), (⟨some 51, none, .callF 146 [(.t 50)]⟩, .alone 5), (⟨some 52, none, .bin .leq (.t 48) (.t 51)⟩, .pure), (⟨some 6, none, .mov (.t 52)⟩, .pure)]) (.seq (.region [⟨some 54, none, .bin .eql (.t 25) (.c (.int .i64 1))⟩, ⟨some 53, none, .mov (.t 54)⟩])
(.cond (.t 53) (.region [⟨some 55, none, .fieldAddr 1 (.t 1)⟩, ⟨some 56, none, .load1 (.t 55)⟩, ⟨some 57, none, .bin .geq (.t 56) (.c (.int .i64 1))⟩, ⟨some 58, none, .mov (.t 57)⟩, ⟨some 59, some (58, true), .fieldAddr 1 (.t 1)⟩, ⟨some 60, some (58, true), .load1 (.t 59)⟩, ⟨some 61, some (58, true), .bin .leq (.t 60) (.c (.int .i64 1099511627776))⟩, ⟨some 62, none, .pick (.t 58) (.t 61) (.c (.bool false))⟩, ⟨some 3, none, .mov (.t 62)⟩]) (.seq (.region [⟨some 64, none, .bin .eql (.t 25) (.c (.int .i64 2))⟩, ⟨some 63, none, .mov (.t 64)⟩])
(.cond (.t 63) (.region [⟨some 65, none, .fieldAddr 3 (.t 1)⟩, ⟨some 66, none, .load1 (.t 65)⟩, ⟨some 67, none, .callF 79 [(.t 66)]⟩, ⟨some 5, none, .mov (.t 67)⟩]) (.seq (.seq (.region [⟨some 69, none, .bin .eql (.t 25) (.c (.int .i64 10))⟩, ⟨some 68, none, .mov (.t 69)⟩])
(.cond (.t 68) .skip (.region [⟨some 70, none, .bin .eql (.t 25) (.c (.int .i64 13))⟩, ⟨some 68, none, .mov (.t 70)⟩])))
(.cond (.t 68) (.region [⟨some 71, none, .fieldAddr 2 (.t 1)⟩, ⟨some 72, none, .load1 (.t 71)⟩, ⟨some 73, none, .bin .geq (.t 72) (.c (.int .i64 0))⟩, ⟨some 74, none, .mov (.t 73)⟩, ⟨some 75, some (74, true), .fieldAddr 2 (.t 1)⟩, ⟨some 76, some (74, true), .load1 (.t 75)⟩, ⟨some 77, some (74, true), .bin .leq (.t 76) (.c (.int .i64 4294967295))⟩, ⟨some 78, none, .pick (.t 74) (.t 77) (.c (.bool false))⟩, ⟨some 4, none, .mov (.t 78)⟩]) .skip))))))))))))
(.seq (.seq (.region [⟨some 79, none, .mov (.t 3)⟩, ⟨some 80, none, .un .not (.t 79)⟩, ⟨some 81, none, .mov (.t 80)⟩, ⟨some 82, some (81, false), .mov (.t 4)⟩, ⟨some 83, some (81, false), .un .not (.t 82)⟩, ⟨some 84, none, .pick (.t 81) (.c (.bool true)) (.t 83)⟩, ⟨some 85, none, .mov (.t 84)⟩, ⟨some 86, some (85, false), .mov (.t 5)⟩, ⟨some 87, some (85, false), .un .not (.t 86)⟩, ⟨some 88, none, .pick (.t 85) (.c (.bool true)) (.t 87)⟩, ⟨some 89, none, .mov (.t 88)⟩, ⟨some 90, some (89, false), .mov (.t 6)⟩, ⟨some 91, some (89, false), .un .not (.t 90)⟩, ⟨some 92, none, .pick (.t 89) (.c (.bool true)) (.t 91)⟩])
(.cond (.t 92) (.seq (.region [⟨some 2, none, .mov (.c (.int .i64 81))⟩])
.ret) .skip))
(.seq (.region [⟨some 2, none, .mov (.c (.int .i64 0))⟩])
.ret))))))⟩
theorem ok124 : Fok 124 d124 := ⟨_, Tryz.func124, by kernel_rfl⟩
/- stint/answers.word -/
def d125 : DFunc := ⟨1, [.tmp 2], (.seq (.region [⟨some 2, none, .mov (.c (.str []))⟩])
(.seq (.region [⟨some 4, none, .build [(.str []), (.str []), (.str []), (.str []), (.str []), (.str []), (.str []), (.str []), (.str []), (.str []), (.str []), (.str []), (.str []), (.str []), (.str []), (.str []), (.str []), (.str []), (.str []), (.str []), (.str []), (.str []), (.str []), (.str [])] [(1, 1, (.c (.str [73, 78, 83, 69, 82, 84, 69, 68]))), (2, 1, (.c (.str [85, 83, 73, 78, 71]))), (3, 1, (.c (.str [82, 69, 83, 69, 82, 86, 69, 68]))), (4, 1, (.c (.str [68, 69, 65, 68, 76, 73, 78, 69, 95, 83, 79, 79, 78]))), (5, 1, (.c (.str [84, 73, 77, 69, 68, 95, 79, 85, 84]))), (6, 1, (.c (.str [68, 69, 76, 69, 84, 69, 68]))), (7, 1, (.c (.str [82, 69, 76, 69, 65, 83, 69, 68]))), (8, 1, (.c (.str [66, 85, 82, 73, 69, 68]))), (9, 1, (.c (.str [84, 79, 85, 67, 72, 69, 68]))), (10, 1, (.c (.str [87, 65, 84, 67, 72, 73, 78, 71]))), (11, 1, (.c (.str [78, 79, 84, 95, 73, 71, 78, 79, 82, 69, 68]))), (12, 1, (.c (.str [70, 79, 85, 78, 68]))), (13, 1, (.c (.str [75, 73, 67, 75, 69, 68]))), (14, 1, (.c (.str [75, 73, 67, 75, 69, 68]))), (15, 1, (.c (.str [80, 65, 85, 83, 69, 68]))), (16, 1, (.c (.str [79, 75]))), (17, 1, (.c (.str [78, 79, 84, 95, 70, 79, 85, 78, 68]))), (18, 1, (.c (.str [79, 85, 84, 95, 79, 70, 95, 77, 69, 77, 79, 82, 89]))), (19, 1, (.c (.str [66, 65, 68, 95, 70, 79, 82, 77, 65, 84]))), (20, 1, (.c (.str [85, 78, 75, 78, 79, 87, 78, 95, 67, 79, 77, 77, 65, 78, 68]))), (21, 1, (.c (.str [69, 88, 80, 69, 67, 84, 69, 68, 95, 67, 82, 76, 70]))), (22, 1, (.c (.str [74, 79, 66, 95, 84, 79, 79, 95, 66, 73, 71]))), (23, 1, (.c (.str [68, 82, 65, 73, 78, 73, 78, 71])))]⟩, ⟨some 3, none, .alloc [(.str []), (.str []), (.str []), (.str []), (.str []), (.str []), (.str []), (.str []), (.str []), (.str []), (.str []), (.str []), (.str []), (.str []), (.str []), (.str []), (.str []), (.str []), (.str []), (.str []), (.str []), (.str []), (.str []), (.str [])]⟩, ⟨none, none, .store 24 (.t 3) (.t 4)⟩])
(.seq (.seq (.region [⟨some 5, none, .mov (.t 0)⟩, ⟨some 6, none, .bin .lss (.t 5) (.c (.int .i64 1))⟩, ⟨some 7, none, .mov (.t 6)⟩, ⟨some 8, some (7, false), .mov (.t 0)⟩, ⟨some 9, some (7, false), .bin .geq (.t 8) (.c (.int .i64 24))⟩, ⟨some 10, none, .pick (.t 7) (.c (.bool true)) (.t 9)⟩])
(.cond (.t 10) (.seq (.region [⟨some 2, none, .mov (.c (.str []))⟩])
.ret) .skip))
(.seq (.region [⟨some 11, none, .mov (.t 0)⟩, ⟨some 12, none, .indexAddrA 24 1 (.t 3) (.t 11)⟩, ⟨some 13, none, .load1 (.t 12)⟩, ⟨some 2, none, .mov (.t 13)⟩])
.ret))))⟩
theorem ok125 : Fok 125 d125 := ⟨_, Tryz.func125, by kernel_rfl⟩
/- (*stint/engine.Engine).noteOrder -/
def d131 : DFunc := ⟨2, [], (.seq (.region [⟨some 3, none, .box (.t 1)⟩])
(.seq (.draw [(⟨some 4, none, .mov (.t 0)⟩, .pure), (⟨some 5, none, .nilCheck (.t 4)⟩, .pure), (⟨some 6, none, .fieldAddr 39 (.t 5)⟩, .pure), (⟨some 7, none, .load1 (.t 6)⟩, .read [6]), (⟨some 8, none, .fieldAddr 0 (.t 3)⟩, .pure), (⟨some 9, none, .load1 (.t 8)⟩, .read [6]), (⟨none, none, .delete false (.t 7) (.t 9)⟩, .alone 6)])
(.seq (.region [⟨some 10, none, .fieldAddr 5 (.t 3)⟩, ⟨some 11, none, .load1 (.t 10)⟩, ⟨some 12, none, .bin .eql (.t 11) (.c (.int .i64 4))⟩])
(.cond (.t 12) (.draw [(⟨some 13, none, .mov (.t 0)⟩, .pure), (⟨some 14, none, .nilCheck (.t 13)⟩, .pure), (⟨some 15, none, .fieldAddr 39 (.t 14)⟩, .pure), (⟨some 16, none, .load1 (.t 15)⟩, .read [8]), (⟨some 17, none, .fieldAddr 0 (.t 3)⟩, .pure), (⟨some 18, none, .load1 (.t 17)⟩, .read [8]), (⟨some 19, none, .fieldAddr 7 (.t 3)⟩, .pure), (⟨some 20, none, .load1 (.t 19)⟩, .read [8]), (⟨none, none, .mapUpdate false (.t 16) (.t 18) (.t 20)⟩, .alone 8)]) .skip))))⟩
theorem ok131 : Fok 131 d131 := ⟨_, Tryz.func131, by kernel_rfl⟩
/- (*stint/seats.Seats).Tubes -/
def d132 : DFunc := ⟨1, [.tmp 2], (.seq (.region [⟨some 2, none, .mov (.c .nilSlice)⟩])
(.seq (.region [⟨some 7, none, .mkMap⟩, ⟨some 3, none, .mov (.t 7)⟩])
(.seq (.seq (.region [⟨some 8, none, .mov (.t 0)⟩, ⟨some 9, none, .nilCheck (.t 8)⟩, ⟨some 10, none, .fieldAddr 0 (.t 9)⟩, ⟨some 11, none, .load1 (.t 10)⟩, ⟨some 12, none, .rangeMap (.t 11)⟩])
(.block 0 (.loop (.seq (.region [⟨some 13, none, .nextMap (.t 12)⟩, ⟨some 14, none, .extract (.t 13) 0⟩])
(.seq (.cond (.t 14) .skip (.exit 0))
(.block 1 (.seq (.region [⟨some 15, none, .entry (.t 12)⟩, ⟨some 16, none, .extract (.t 15) 1⟩, ⟨some 5, none, .mov (.t 16)⟩])
(.seq (.region [⟨some 17, none, .mov (.t 3)⟩, ⟨some 18, none, .mov (.t 5)⟩, ⟨some 19, none, .nilCheck (.t 18)⟩, ⟨some 20, none, .fieldAddr 0 (.t 19)⟩, ⟨some 21, none, .load1 (.t 20)⟩, ⟨none, none, .mapUpdate true (.t 17) (.t 21) (.c (.bool true))⟩])
(.seq (.region [⟨some 22, none, .mov (.t 5)⟩, ⟨some 23, none, .nilCheck (.t 22)⟩, ⟨some 24, none, .fieldAddr 1 (.t 23)⟩, ⟨some 25, none, .load1 (.t 24)⟩, ⟨some 26, none, .rangeMap (.t 25)⟩])
(.block 2 (.loop (.seq (.region [⟨some 27, none, .nextMap (.t 26)⟩, ⟨some 28, none, .extract (.t 27) 0⟩])
(.seq (.cond (.t 28) .skip (.exit 2))
(.block 3 (.seq (.region [⟨some 29, none, .entry (.t 26)⟩, ⟨some 30, none, .extract (.t 29) 0⟩, ⟨some 6, none, .mov (.t 30)⟩])
(.region [⟨some 31, none, .mov (.t 3)⟩, ⟨some 32, none, .mov (.t 6)⟩, ⟨none, none, .mapUpdate true (.t 31) (.t 32) (.c (.bool true))⟩]))))))))))))))))
(.seq (.region [⟨some 33, none, .mov (.t 3)⟩, ⟨some 34, none, .callF 115 [(.t 33)]⟩, ⟨some 2, none, .mov (.t 34)⟩])
.ret))))⟩
theorem ok132 : Fok 132 d132 := ⟨_, Tryz.func132, by kernel_rfl⟩
/- (*stint/engine.Engine).best -/
def d134 : DFunc := ⟨2, [.tmp 4], (.seq (.region [⟨some 4, none, .mov (.c (.int .i64 0))⟩])
(.seq (.region [⟨some 5, none, .alloc [(.int .i64 0), (.int .i64 0), (.int .i64 0), (.int .i64 0), (.int .i64 0), (.int .i64 0), (.int .i64 0), (.int .i64 0), (.int .i64 0), (.int .i64 0), (.int .i64 0), (.int .i64 0), (.int .i64 0), (.int .i64 0), (.str []), .nilSlice]⟩])
(.seq (.seq (.region [⟨some 11, none, .mov (.t 1)⟩, ⟨some 12, none, .lenSl (.t 11)⟩, ⟨some 13, none, .mov (.c (.int .i64 0))⟩])
(.block 0 (.loop (.seq (.region [⟨some 14, none, .bin .lss (.t 13) (.t 12)⟩])
(.seq (.cond (.t 14) .skip (.exit 0))
(.seq (.block 1 (.seq (.region [⟨some 15, none, .indexAddrS 1 (.t 11) (.t 13)⟩, ⟨some 16, none, .load1 (.t 15)⟩, ⟨some 7, none, .mov (.t 16)⟩])
(.seq (.region [⟨some 17, none, .mov (.t 0)⟩, ⟨some 18, none, .nilCheck (.t 17)⟩, ⟨some 19, none, .fieldAddr 6 (.t 18)⟩, ⟨some 20, none, .load1 (.t 19)⟩, ⟨some 21, none, .mov (.t 7)⟩, ⟨some 22, none, .callF 169 [(.t 20), (.t 21)]⟩, ⟨some 8, none, .mov (.t 22)⟩])
(.seq (.seq (.region [⟨some 23, none, .mov (.t 8)⟩, ⟨some 24, none, .bin .eql (.t 23) (.c (.int .i64 0))⟩, ⟨some 25, none, .mov (.t 24)⟩, ⟨some 26, some (25, false), .mov (.t 0)⟩, ⟨some 27, some (25, false), .mov (.t 7)⟩, ⟨some 28, some (25, false), .callF 170 [(.t 26), (.t 27)]⟩, ⟨some 29, none, .pick (.t 25) (.c (.bool true)) (.t 28)⟩])
(.cond (.t 29) (.exit 1) .skip))
(.seq (.region [⟨some 31, none, .mov (.t 0)⟩, ⟨some 32, none, .nilCheck (.t 31)⟩, ⟨some 33, none, .fieldAddr 6 (.t 32)⟩, ⟨some 34, none, .load1 (.t 33)⟩, ⟨some 35, none, .mov (.t 8)⟩, ⟨some 36, none, .callF 98 [(.t 34), (.t 35)]⟩, ⟨some 30, none, .mov (.t 36)⟩, ⟨some 37, none, .extract (.t 30) 0⟩, ⟨some 38, none, .extract (.t 30) 1⟩, ⟨some 9, none, .alloc [(.int .i64 0), (.int .i64 0), (.int .i64 0), (.int .i64 0), (.int .i64 0), (.int .i64 0), (.int .i64 0), (.int .i64 0), (.int .i64 0), (.int .i64 0), (.int .i64 0), (.int .i64 0), (.int .i64 0), (.int .i64 0), (.str []), .nilSlice]⟩, ⟨none, none, .store 16 (.t 9) (.t 37)⟩, ⟨some 10, none, .mov (.t 38)⟩])
(.seq (.region [⟨some 39, none, .fieldAddr 0 (.t 5)⟩, ⟨some 40, none, .load1 (.t 39)⟩, ⟨some 41, none, .bin .eql (.t 40) (.c (.int .i64 0))⟩, ⟨some 42, none, .mov (.t 41)⟩, ⟨some 43, some (42, false), .fieldAddr 1 (.t 9)⟩, ⟨some 44, some (42, false), .load1 (.t 43)⟩, ⟨some 45, some (42, false), .fieldAddr 1 (.t 5)⟩, ⟨some 46, some (42, false), .load1 (.t 45)⟩, ⟨some 47, some (42, false), .bin .lss (.t 44) (.t 46)⟩, ⟨some 48, none, .pick (.t 42) (.c (.bool true)) (.t 47)⟩, ⟨some 49, none, .mov (.t 48)⟩, ⟨some 50, some (49, false), .fieldAddr 1 (.t 9)⟩, ⟨some 51, some (49, false), .load1 (.t 50)⟩, ⟨some 52, some (49, false), .fieldAddr 1 (.t 5)⟩, ⟨some 53, some (49, false), .load1 (.t 52)⟩, ⟨some 54, some (49, false), .bin .eql (.t 51) (.t 53)⟩, ⟨some 55, some (49, false), .mov (.t 54)⟩, ⟨some 56, some (55, true), .fieldAddr 0 (.t 9)⟩, ⟨some 57, some (55, true), .load1 (.t 56)⟩, ⟨some 58, some (55, true), .fieldAddr 0 (.t 5)⟩, ⟨some 59, some (55, true), .load1 (.t 58)⟩, ⟨some 60, some (55, true), .bin .lss (.t 57) (.t 59)⟩, ⟨some 61, some (49, false), .pick (.t 55) (.t 60) (.c (.bool false))⟩, ⟨some 62, none, .pick (.t 49) (.c (.bool true)) (.t 61)⟩])
(.cond (.t 62) (.region [⟨some 63, none, .loadN 16 (.t 9)⟩, ⟨none, none, .store 16 (.t 5) (.t 63)⟩]) .skip)))))))
(.region [⟨some 64, none, .bin .add (.t 13) (.c (.int .i64 1))⟩, ⟨some 13, none, .mov (.t 64)⟩])))))))
(.seq (.region [⟨some 65, none, .fieldAddr 0 (.t 5)⟩, ⟨some 66, none, .load1 (.t 65)⟩, ⟨some 4, none, .mov (.t 66)⟩])
.ret))))⟩
theorem ok134 : Fok 134 d134 := ⟨_, Tryz.func134, by kernel_rfl⟩
/- maps.DeleteFunc[map[string]stint/engine.meter,string,stint/engine.meter] -/
def d137 : DFunc := ⟨2, [], (.seq (.region [⟨some 6, none, .mov (.t 0)⟩, ⟨some 7, none, .rangeMap (.t 6)⟩])
(.block 0 (.loop (.seq (.region [⟨some 8, none, .nextMap (.t 7)⟩, ⟨some 9, none, .extract (.t 8) 0⟩])
(.seq (.cond (.t 9) .skip (.exit 0))
(.block 1 (.seq (.region [⟨some 10, none, .entry (.t 7)⟩, ⟨some 11, none, .extract (.t 10) 0⟩, ⟨some 12, none, .extract (.t 10) 1⟩, ⟨some 5, none, .alloc [(.int .i64 0), (.int .i64 0), (.int .i64 0), (.int .i64 0), (.int .i64 0)]⟩, ⟨some 4, none, .mov (.t 11)⟩, ⟨none, none, .store 5 (.t 5) (.t 12)⟩])
(.seq (.region [⟨some 13, none, .mov (.t 1)⟩, ⟨some 14, none, .mov (.t 4)⟩, ⟨some 15, none, .loadN 5 (.t 5)⟩, ⟨some 16, none, .callV (.t 13) [(.t 14), (.t 15)]⟩])
(.cond (.t 16) (.region [⟨some 17, none, .mov (.t 0)⟩, ⟨some 18, none, .mov (.t 4)⟩, ⟨none, none, .delete true (.t 17) (.t 18)⟩]) .skip)))))))))⟩
theorem ok137 : Fok 137 d137 := ⟨_, Tryz.func137, by kernel_rfl⟩
/- (*stint/engine.Engine).told$1 -/
def d138 : DFunc := ⟨2, [.tmp 5], (.seq (.region [⟨some 4, none, .box (.t 1)⟩, ⟨some 5, none, .mov (.c (.bool false))⟩])
(.seq (.region [⟨some 6, none, .load1 (.t 2)⟩, ⟨some 7, none, .mov (.t 0)⟩, ⟨some 8, none, .callF 139 [(.t 6), (.t 7)]⟩, ⟨some 9, none, .un .not (.t 8)⟩, ⟨some 5, none, .mov (.t 9)⟩])
.ret))⟩
theorem ok138 : Fok 138 d138 := ⟨_, Tryz.func138, by kernel_rfl⟩
/- (*stint/engine.Engine).there -/
def d139 : DFunc := ⟨2, [.tmp 4], (.seq (.region [⟨some 4, none, .mov (.c (.bool false))⟩])
(.seq (.region [⟨some 5, none, .mov (.t 1)⟩, ⟨some 6, none, .bin .eql (.t 5) (.c (.str [100, 101, 102, 97, 117, 108, 116]))⟩, ⟨some 7, none, .mov (.t 6)⟩, ⟨some 8, some (7, false), .mov (.t 0)⟩, ⟨some 9, some (7, false), .nilCheck (.t 8)⟩, ⟨some 10, some (7, false), .fieldAddr 7 (.t 9)⟩, ⟨some 11, some (7, false), .load1 (.t 10)⟩, ⟨some 12, some (7, false), .mov (.t 1)⟩, ⟨some 13, some (7, false), .callF 173 [(.t 11), (.t 12)]⟩, ⟨some 14, some (7, false), .bin .gtr (.t 13) (.c (.int .i64 0))⟩, ⟨some 15, none, .pick (.t 7) (.c (.bool true)) (.t 14)⟩, ⟨some 16, none, .mov (.t 15)⟩, ⟨some 17, some (16, false), .mov (.t 0)⟩, ⟨some 18, some (16, false), .nilCheck (.t 17)⟩, ⟨some 19, some (16, false), .fieldAddr 7 (.t 18)⟩, ⟨some 20, some (16, false), .load1 (.t 19)⟩, ⟨some 21, some (16, false), .mov (.t 1)⟩, ⟨some 22, some (16, false), .callF 174 [(.t 20), (.t 21)]⟩, ⟨some 23, some (16, false), .bin .gtr (.t 22) (.c (.int .i64 0))⟩, ⟨some 24, none, .pick (.t 16) (.c (.bool true)) (.t 23)⟩, ⟨some 25, none, .mov (.t 24)⟩, ⟨some 26, some (25, false), .mov (.t 0)⟩, ⟨some 27, some (25, false), .nilCheck (.t 26)⟩, ⟨some 28, some (25, false), .fieldAddr 6 (.t 27)⟩, ⟨some 29, some (25, false), .load1 (.t 28)⟩, ⟨some 30, some (25, false), .mov (.t 1)⟩, ⟨some 31, some (25, false), .callF 175 [(.t 29), (.t 30)]⟩, ⟨some 32, some (25, false), .build [(.int .i64 0), (.int .i64 0), (.int .i64 0), (.int .i64 0), (.int .i64 0)] []⟩, ⟨some 33, some (25, false), .eqv true (.struct [(0, 1, false, (.prim 1)), (1, 1, false, (.prim 1)), (2, 1, false, (.prim 1)), (3, 1, false, (.prim 1)), (4, 1, false, (.prim 1))]) (.t 31) (.t 32)⟩, ⟨some 34, none, .pick (.t 25) (.c (.bool true)) (.t 33)⟩, ⟨some 4, none, .mov (.t 34)⟩])
.ret))⟩
theorem ok139 : Fok 139 d139 := ⟨_, Tryz.func139, by kernel_rfl⟩
end Go.Proofs.YtfdplefijefeiaaGreatDoor
