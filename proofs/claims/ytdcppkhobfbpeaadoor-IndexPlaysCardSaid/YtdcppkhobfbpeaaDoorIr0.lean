/-
  The functions as code of the abstract machine, and that the compiling answers them.
-/
import Derived.Test.YtdcppkhobfbpeaaDoorAmL
import Derived.Test.YtdcppkhobfbpeaaDoorProg
set_option linter.unusedVariables false
namespace Go.Am.YtdcppkhobfbpeaaDoor
open Go Go.Am Go.Proofs

/- lockfast.lockfastlaw17.IndexFrees -/
def ir3 : IFun := ⟨92, (.seq (.region [ 
 ⟨some 4, (.mov (.const (.bool false))), none⟩]) (.seq (.region [ 
 ⟨some 12, (.call (.func 9) []), none⟩,
 ⟨some 5, (.mov (.tmp 12)), none⟩]) (.seq (.seq (.region [ 
 ⟨some 13, (.mov (.tmp 0)), none⟩,
 ⟨some 14, (.len (.tmp 13)), none⟩,
 ⟨some 15, (.bin .gtr (.tmp 14) (.const (.int .i64 40))), none⟩]) (.cond (.tmp 15) (.seq (.region [ 
 ⟨some 16, (.mov (.tmp 5)), none⟩,
 ⟨some 4, (.mov (.tmp 16)), none⟩]) .ret) .skip)) (.seq (.region [ 
 ⟨some 17, (.mov (.tmp 0)), none⟩,
 ⟨some 18, (.call (.func 11) [(.tmp 17), (.const (.int .i64 20))]), none⟩,
 ⟨some 19, (.call (.func 10) [(.tmp 18)]), none⟩,
 ⟨some 6, (.mov (.tmp 19)), none⟩]) (.seq (.seq (.region [ 
 ⟨some 20, (.mov (.tmp 6)), none⟩,
 ⟨some 21, (.neq false (.tmp 20) (.const (.pointer none))), none⟩]) (.cond (.tmp 21) (.seq (.region [ 
 ⟨some 4, (.mov (.const (.bool false))), none⟩]) .ret) .skip)) (.seq (.region [ 
 ⟨some 22, (.mov (.tmp 1)), none⟩,
 ⟨some 23, (.bin .rem (.tmp 22) (.const (.int .u16 700))), none⟩,
 ⟨some 24, (.conv .i64 (.tmp 23)), none⟩,
 ⟨some 7, (.mov (.tmp 24)), none⟩]) (.seq (.region [ 
 ⟨some 26, (.mov (.tmp 6)), none⟩,
 ⟨some 27, (.mov (.tmp 7)), none⟩,
 ⟨some 28, (.call (.func 12) [(.tmp 26), (.tmp 27)]), none⟩,
 ⟨some 25, (.mov (.tmp 28)), none⟩,
 ⟨some 29, (.ext (.tmp 25) 0), none⟩,
 ⟨some 30, (.ext (.tmp 25) 1), none⟩,
 ⟨some 8, (.alloc 30 [(.int .i64 0), (.int .i64 0), (.int .i64 0), (.int .i64 0), (.bool false)]), none⟩,
 ⟨none, (.store 5 (.tmp 8) (.tmp 29)), none⟩,
 ⟨some 9, (.mov (.tmp 30)), none⟩]) (.seq (.seq (.region [ 
 ⟨some 31, (.mov (.tmp 9)), none⟩,
 ⟨some 32, (.bin .neq (.tmp 31) (.const (.int .i64 0))), none⟩]) (.cond (.tmp 32) (.seq (.region [ 
 ⟨some 33, (.mov (.tmp 5)), none⟩,
 ⟨some 34, (.mov (.tmp 33)), none⟩,
 ⟨some 35, (.mov (.tmp 9)), (some (34, true))⟩,
 ⟨some 36, (.bin .eql (.tmp 35) (.const (.int .i64 2))), (some (34, true))⟩,
 ⟨some 37, (.pick (.tmp 34) (.tmp 36) (.const (.bool false))), none⟩,
 ⟨some 4, (.mov (.tmp 37)), none⟩]) .ret) .skip)) (.seq (.seq (.region [ 
 ⟨some 38, (.mov (.tmp 6)), none⟩,
 ⟨some 39, (.loadN 5 (.tmp 8)), none⟩,
 ⟨some 40, (.call (.func 13) [(.tmp 38), (.tmp 39)]), none⟩,
 ⟨some 41, (.un .not (.tmp 40)), none⟩,
 ⟨some 42, (.mov (.tmp 41)), none⟩,
 ⟨some 43, (.mov (.tmp 6)), (some (42, false))⟩,
 ⟨some 44, (.loadN 5 (.tmp 8)), (some (42, false))⟩,
 ⟨some 45, (.call (.func 14) [(.tmp 43), (.tmp 44)]), (some (42, false))⟩,
 ⟨some 46, (.un .not (.tmp 45)), (some (42, false))⟩,
 ⟨some 47, (.pick (.tmp 42) (.const (.bool true)) (.tmp 46)), none⟩,
 ⟨some 48, (.mov (.tmp 47)), none⟩,
 ⟨some 49, (.mov (.tmp 6)), (some (48, false))⟩,
 ⟨some 50, (.loadN 5 (.tmp 8)), (some (48, false))⟩,
 ⟨some 51, (.call (.func 14) [(.tmp 49), (.tmp 50)]), (some (48, false))⟩,
 ⟨some 52, (.pick (.tmp 48) (.const (.bool true)) (.tmp 51)), none⟩]) (.cond (.tmp 52) (.seq (.region [ 
 ⟨some 4, (.mov (.const (.bool false))), none⟩]) .ret) .skip)) (.seq (.region [ 
 ⟨some 54, (.mov (.tmp 6)), none⟩,
 ⟨some 55, (.mov (.tmp 7)), none⟩,
 ⟨some 56, (.call (.func 12) [(.tmp 54), (.tmp 55)]), none⟩,
 ⟨some 53, (.mov (.tmp 56)), none⟩,
 ⟨some 57, (.ext (.tmp 53) 0), none⟩,
 ⟨some 58, (.ext (.tmp 53) 1), none⟩,
 ⟨some 10, (.alloc 30 [(.int .i64 0), (.int .i64 0), (.int .i64 0), (.int .i64 0), (.bool false)]), none⟩,
 ⟨none, (.store 5 (.tmp 10) (.tmp 57)), none⟩,
 ⟨some 11, (.mov (.tmp 58)), none⟩]) (.seq (.region [ 
 ⟨some 59, (.mov (.tmp 5)), none⟩,
 ⟨some 60, (.mov (.tmp 59)), none⟩,
 ⟨some 61, (.mov (.tmp 11)), (some (60, true))⟩,
 ⟨some 62, (.bin .eql (.tmp 61) (.const (.int .i64 0))), (some (60, true))⟩,
 ⟨some 63, (.pick (.tmp 60) (.tmp 62) (.const (.bool false))), none⟩,
 ⟨some 64, (.mov (.tmp 63)), none⟩,
 ⟨some 65, (.faddr 0 (.tmp 10)), (some (64, true))⟩,
 ⟨some 66, (.load1 (.tmp 65)), (some (64, true))⟩,
 ⟨some 67, (.faddr 0 (.tmp 8)), (some (64, true))⟩,
 ⟨some 68, (.load1 (.tmp 67)), (some (64, true))⟩,
 ⟨some 69, (.bin .eql (.tmp 66) (.tmp 68)), (some (64, true))⟩,
 ⟨some 70, (.pick (.tmp 64) (.tmp 69) (.const (.bool false))), none⟩,
 ⟨some 71, (.mov (.tmp 70)), none⟩,
 ⟨some 72, (.faddr 1 (.tmp 10)), (some (71, true))⟩,
 ⟨some 73, (.load1 (.tmp 72)), (some (71, true))⟩,
 ⟨some 74, (.faddr 1 (.tmp 8)), (some (71, true))⟩,
 ⟨some 75, (.load1 (.tmp 74)), (some (71, true))⟩,
 ⟨some 76, (.bin .eql (.tmp 73) (.tmp 75)), (some (71, true))⟩,
 ⟨some 77, (.pick (.tmp 71) (.tmp 76) (.const (.bool false))), none⟩,
 ⟨some 78, (.mov (.tmp 77)), none⟩,
 ⟨some 79, (.faddr 2 (.tmp 10)), (some (78, true))⟩,
 ⟨some 80, (.load1 (.tmp 79)), (some (78, true))⟩,
 ⟨some 81, (.faddr 2 (.tmp 8)), (some (78, true))⟩,
 ⟨some 82, (.load1 (.tmp 81)), (some (78, true))⟩,
 ⟨some 83, (.bin .eql (.tmp 80) (.tmp 82)), (some (78, true))⟩,
 ⟨some 84, (.pick (.tmp 78) (.tmp 83) (.const (.bool false))), none⟩,
 ⟨some 85, (.mov (.tmp 84)), none⟩,
 ⟨some 86, (.faddr 3 (.tmp 10)), (some (85, true))⟩,
 ⟨some 87, (.load1 (.tmp 86)), (some (85, true))⟩,
 ⟨some 88, (.faddr 3 (.tmp 8)), (some (85, true))⟩,
 ⟨some 89, (.load1 (.tmp 88)), (some (85, true))⟩,
 ⟨some 90, (.bin .eql (.tmp 87) (.tmp 89)), (some (85, true))⟩,
 ⟨some 91, (.pick (.tmp 85) (.tmp 90) (.const (.bool false))), none⟩,
 ⟨some 4, (.mov (.tmp 91)), none⟩]) .ret))))))))))), [(.tmp 4)]⟩
theorem ir3_ok : compFun Tryd.prog Tryd.f3 = some ir3 := by kernel_rfl

/- lockfast.lockfastlaw17.IndexNoSpace -/
def ir4 : IFun := ⟨139, (.seq (.region [ 
 ⟨some 4, (.mov (.const (.bool false))), none⟩]) (.seq (.region [ 
 ⟨some 18, (.call (.func 9) []), none⟩,
 ⟨some 5, (.mov (.tmp 18)), none⟩]) (.seq (.seq (.region [ 
 ⟨some 19, (.mov (.tmp 0)), none⟩,
 ⟨some 20, (.len (.tmp 19)), none⟩,
 ⟨some 21, (.bin .gtr (.tmp 20) (.const (.int .i64 40))), none⟩,
 ⟨some 22, (.mov (.tmp 21)), none⟩,
 ⟨some 23, (.mov (.tmp 1)), (some (22, false))⟩,
 ⟨some 24, (.len (.tmp 23)), (some (22, false))⟩,
 ⟨some 25, (.bin .gtr (.tmp 24) (.const (.int .i64 40))), (some (22, false))⟩,
 ⟨some 26, (.pick (.tmp 22) (.const (.bool true)) (.tmp 25)), none⟩]) (.cond (.tmp 26) (.seq (.region [ 
 ⟨some 27, (.mov (.tmp 5)), none⟩,
 ⟨some 4, (.mov (.tmp 27)), none⟩]) .ret) .skip)) (.seq (.region [ 
 ⟨some 28, (.mov (.tmp 0)), none⟩,
 ⟨some 29, (.call (.func 11) [(.tmp 28), (.const (.int .i64 20))]), none⟩,
 ⟨some 30, (.call (.func 10) [(.tmp 29)]), none⟩,
 ⟨some 6, (.mov (.tmp 30)), none⟩]) (.seq (.seq (.region [ 
 ⟨some 31, (.mov (.tmp 6)), none⟩,
 ⟨some 32, (.neq false (.tmp 31) (.const (.pointer none))), none⟩]) (.cond (.tmp 32) (.seq (.region [ 
 ⟨some 4, (.mov (.const (.bool false))), none⟩]) .ret) .skip)) (.seq (.seq (.region [ 
 ⟨some 7, (.mov (.const (.int .i64 0))), none⟩]) (.block 0 (.loop (.seq (.seq (.region [ 
 ⟨some 33, (.mov (.tmp 7)), none⟩,
 ⟨some 34, (.mov (.tmp 1)), none⟩,
 ⟨some 35, (.len (.tmp 34)), none⟩,
 ⟨some 36, (.bin .lss (.tmp 33) (.tmp 35)), none⟩]) (.cond (.tmp 36) .skip (.exit 0))) (.seq (.block 1 (.seq (.region [ 
 ⟨some 39, (.mov (.tmp 1)), none⟩,
 ⟨some 40, (.mov (.tmp 7)), none⟩,
 ⟨some 41, (.iaddr 1 (.tmp 39) (.tmp 40)), none⟩,
 ⟨some 42, (.load1 (.tmp 41)), none⟩,
 ⟨some 43, (.bin .rem (.tmp 42) (.const (.int .u16 200))), none⟩,
 ⟨some 44, (.conv .i64 (.tmp 43)), none⟩,
 ⟨some 8, (.mov (.tmp 44)), none⟩]) (.seq (.region [ 
 ⟨some 45, (.mov (.tmp 6)), none⟩,
 ⟨some 46, (.call (.func 16) [(.tmp 45)]), none⟩,
 ⟨some 47, (.call (.func 15) [(.tmp 46)]), none⟩,
 ⟨some 9, (.mov (.tmp 47)), none⟩]) (.seq (.region [ 
 ⟨some 49, (.mov (.tmp 6)), none⟩,
 ⟨some 50, (.call (.func 16) [(.tmp 49)]), none⟩,
 ⟨some 51, (.call (.func 17) [(.tmp 50)]), none⟩,
 ⟨some 48, (.mov (.tmp 51)), none⟩,
 ⟨some 52, (.ext (.tmp 48) 0), none⟩,
 ⟨some 53, (.ext (.tmp 48) 1), none⟩,
 ⟨some 10, (.mov (.tmp 52)), none⟩,
 ⟨some 11, (.mov (.tmp 53)), none⟩]) (.seq (.region [ 
 ⟨some 55, (.mov (.tmp 6)), none⟩,
 ⟨some 56, (.mov (.tmp 8)), none⟩,
 ⟨some 57, (.call (.func 12) [(.tmp 55), (.tmp 56)]), none⟩,
 ⟨some 54, (.mov (.tmp 57)), none⟩,
 ⟨some 58, (.ext (.tmp 54) 0), none⟩,
 ⟨some 59, (.ext (.tmp 54) 1), none⟩,
 ⟨some 12, (.alloc 30 [(.int .i64 0), (.int .i64 0), (.int .i64 0), (.int .i64 0), (.bool false)]), none⟩,
 ⟨none, (.store 5 (.tmp 12) (.tmp 58)), none⟩,
 ⟨some 13, (.mov (.tmp 59)), none⟩]) (.seq (.seq (.region [ 
 ⟨some 60, (.mov (.tmp 11)), none⟩,
 ⟨some 61, (.un .not (.tmp 60)), none⟩]) (.cond (.tmp 61) (.seq (.region [ 
 ⟨some 4, (.mov (.const (.bool false))), none⟩]) .ret) .skip)) (.seq (.region [ 
 ⟨some 14, (.mov (.const (.bool false))), none⟩]) (.seq (.seq (.region [ 
 ⟨some 15, (.mov (.const (.int .i64 0))), none⟩]) (.block 2 (.loop (.seq (.seq (.region [ 
 ⟨some 62, (.mov (.tmp 15)), none⟩,
 ⟨some 63, (.mov (.tmp 9)), none⟩,
 ⟨some 64, (.len (.tmp 63)), none⟩,
 ⟨some 65, (.bin .lss (.tmp 62) (.tmp 64)), none⟩]) (.cond (.tmp 65) .skip (.exit 2))) (.seq (.block 3 (.draw [ 
 ⟨some 68, (.mov (.tmp 14)), none⟩,
 ⟨some 69, (.mov (.tmp 68)), none⟩,
 ⟨some 70, (.mov (.tmp 9)), (some (69, false))⟩,
 ⟨some 71, (.mov (.tmp 15)), (some (69, false))⟩,
 ⟨some 72, (.iaddr 2 (.tmp 70) (.tmp 71)), (some (69, false))⟩,
 ⟨some 73, (.faddr 1 (.tmp 72)), (some (69, false))⟩,
 ⟨some 74, (.load1 (.tmp 73)), (some (69, false))⟩,
 ⟨some 75, (.mov (.tmp 8)), (some (69, false))⟩,
 ⟨some 76, (.call (.func 18) [(.tmp 75)]), (some (69, false))⟩,
 ⟨some 77, (.minmax true (.const (.int .i64 1)) (.tmp 76)), (some (69, false))⟩,
 ⟨some 78, (.bin .geq (.tmp 74) (.tmp 77)), (some (69, false))⟩,
 ⟨some 79, (.pick (.tmp 69) (.const (.bool true)) (.tmp 78)), none⟩,
 ⟨some 14, (.mov (.tmp 79)), none⟩] [(8, 6)])) (.region [ 
 ⟨some 66, (.mov (.tmp 15)), none⟩,
 ⟨some 67, (.bin .add (.tmp 66) (.const (.int .i64 1))), none⟩,
 ⟨some 15, (.mov (.tmp 67)), none⟩])))))) (.seq (.seq (.region [ 
 ⟨some 16, (.mov (.const (.int .i64 0))), none⟩]) (.block 4 (.loop (.seq (.seq (.region [ 
 ⟨some 80, (.mov (.tmp 16)), none⟩,
 ⟨some 81, (.mov (.tmp 10)), none⟩,
 ⟨some 82, (.len (.tmp 81)), none⟩,
 ⟨some 83, (.bin .lss (.tmp 80) (.tmp 82)), none⟩]) (.cond (.tmp 83) .skip (.exit 4))) (.seq (.block 5 (.seq (.region [ 
 ⟨some 86, (.mov (.tmp 10)), none⟩,
 ⟨some 87, (.mov (.tmp 16)), none⟩,
 ⟨some 88, (.iaddr 5 (.tmp 86) (.tmp 87)), none⟩,
 ⟨some 89, (.loadN 5 (.tmp 88)), none⟩,
 ⟨some 17, (.alloc 47 [(.int .i64 0), (.int .i64 0), (.int .i64 0), (.int .i64 0), (ub 0#64)]), none⟩,
 ⟨none, (.store 5 (.tmp 17) (.tmp 89)), none⟩]) (.draw [ 
 ⟨some 90, (.mov (.tmp 14)), none⟩,
 ⟨some 91, (.mov (.tmp 90)), none⟩,
 ⟨some 92, (.mov (.tmp 8)), (some (91, false))⟩,
 ⟨some 93, (.call (.func 19) [(.tmp 92)]), (some (91, false))⟩,
 ⟨some 94, (.bin .geq (.tmp 93) (.const (.int .i64 0))), (some (91, false))⟩,
 ⟨some 95, (.mov (.tmp 94)), (some (91, false))⟩,
 ⟨some 96, (.faddr 0 (.tmp 17)), (some (95, true))⟩,
 ⟨some 97, (.load1 (.tmp 96)), (some (95, true))⟩,
 ⟨some 98, (.bin .eql (.tmp 97) (.const (.int .i64 1))), (some (95, true))⟩,
 ⟨some 99, (.pick (.tmp 95) (.tmp 98) (.const (.bool false))), (some (91, false))⟩,
 ⟨some 100, (.mov (.tmp 99)), (some (91, false))⟩,
 ⟨some 101, (.faddr 1 (.tmp 17)), (some (100, true))⟩,
 ⟨some 102, (.load1 (.tmp 101)), (some (100, true))⟩,
 ⟨some 103, (.mov (.tmp 8)), (some (100, true))⟩,
 ⟨some 104, (.call (.func 19) [(.tmp 103)]), (some (100, true))⟩,
 ⟨some 105, (.bin .eql (.tmp 102) (.tmp 104)), (some (100, true))⟩,
 ⟨some 106, (.pick (.tmp 100) (.tmp 105) (.const (.bool false))), (some (91, false))⟩,
 ⟨some 107, (.mov (.tmp 106)), (some (91, false))⟩,
 ⟨some 108, (.faddr 4 (.tmp 17)), (some (107, true))⟩,
 ⟨some 109, (.load1 (.tmp 108)), (some (107, true))⟩,
 ⟨some 110, (.faddr 1 (.tmp 17)), (some (107, true))⟩,
 ⟨some 111, (.load1 (.tmp 110)), (some (107, true))⟩,
 ⟨some 112, (.call (.func 20) [(.tmp 111)]), (some (107, true))⟩,
 ⟨some 113, (.bin .shl (.const (ub 1#64)) (.tmp 112)), (some (107, true))⟩,
 ⟨some 114, (.bin .sub (.tmp 113) (.const (ub 1#64))), (some (107, true))⟩,
 ⟨some 115, (.bin .neq (.tmp 109) (.tmp 114)), (some (107, true))⟩,
 ⟨some 116, (.pick (.tmp 107) (.tmp 115) (.const (.bool false))), (some (91, false))⟩,
 ⟨some 117, (.pick (.tmp 91) (.const (.bool true)) (.tmp 116)), none⟩,
 ⟨some 14, (.mov (.tmp 117)), none⟩] [(14, 12), (22, 19)]))) (.region [ 
 ⟨some 84, (.mov (.tmp 16)), none⟩,
 ⟨some 85, (.bin .add (.tmp 84) (.const (.int .i64 1))), none⟩,
 ⟨some 16, (.mov (.tmp 85)), none⟩])))))) (.seq (.seq (.region [ 
 ⟨some 118, (.mov (.tmp 14)), none⟩,
 ⟨some 119, (.mov (.tmp 13)), none⟩,
 ⟨some 120, (.bin .eql (.tmp 119) (.const (.int .i64 0))), none⟩,
 ⟨some 121, (.beq true (.tmp 118) (.tmp 120)), none⟩,
 ⟨some 122, (.mov (.tmp 121)), none⟩,
 ⟨some 123, (.mov (.tmp 14)), (some (122, false))⟩,
 ⟨some 124, (.un .not (.tmp 123)), (some (122, false))⟩,
 ⟨some 125, (.mov (.tmp 124)), (some (122, false))⟩,
 ⟨some 126, (.mov (.tmp 13)), (some (125, true))⟩,
 ⟨some 127, (.bin .neq (.tmp 126) (.const (.int .i64 2))), (some (125, true))⟩,
 ⟨some 128, (.pick (.tmp 125) (.tmp 127) (.const (.bool false))), (some (122, false))⟩,
 ⟨some 129, (.pick (.tmp 122) (.const (.bool true)) (.tmp 128)), none⟩]) (.cond (.tmp 129) (.seq (.region [ 
 ⟨some 4, (.mov (.const (.bool false))), none⟩]) .ret) .skip)) (.seq (.region [ 
 ⟨some 130, (.mov (.tmp 13)), none⟩,
 ⟨some 131, (.bin .eql (.tmp 130) (.const (.int .i64 0))), none⟩,
 ⟨some 132, (.mov (.tmp 131)), none⟩,
 ⟨some 133, (.mov (.tmp 6)), (some (132, true))⟩,
 ⟨some 134, (.loadN 5 (.tmp 12)), (some (132, true))⟩,
 ⟨some 135, (.call (.func 13) [(.tmp 133), (.tmp 134)]), (some (132, true))⟩,
 ⟨some 136, (.un .not (.tmp 135)), (some (132, true))⟩,
 ⟨some 137, (.pick (.tmp 132) (.tmp 136) (.const (.bool false))), none⟩]) (.cond (.tmp 137) (.seq (.region [ 
 ⟨some 4, (.mov (.const (.bool false))), none⟩]) .ret) .skip)))))))))))) (.region [ 
 ⟨some 37, (.mov (.tmp 7)), none⟩,
 ⟨some 38, (.bin .add (.tmp 37) (.const (.int .i64 1))), none⟩,
 ⟨some 7, (.mov (.tmp 38)), none⟩])))))) (.seq (.region [ 
 ⟨some 138, (.mov (.tmp 5)), none⟩,
 ⟨some 4, (.mov (.tmp 138)), none⟩]) .ret))))))), [(.tmp 4)]⟩
theorem ir4_ok : compFun Tryd.prog Tryd.f4 = some ir4 := by kernel_rfl

/- lockfast.lockfastlaw17.IndexPlays -/
def ir5 : IFun := ⟨185, (.seq (.region [ 
 ⟨some 4, (.mov (.const (.bool false))), none⟩]) (.seq (.region [ 
 ⟨some 23, (.call (.func 9) []), none⟩,
 ⟨some 5, (.mov (.tmp 23)), none⟩]) (.seq (.seq (.region [ 
 ⟨some 24, (.mov (.tmp 0)), none⟩,
 ⟨some 25, (.len (.tmp 24)), none⟩,
 ⟨some 26, (.bin .gtr (.tmp 25) (.const (.int .i64 40))), none⟩,
 ⟨some 27, (.mov (.tmp 26)), none⟩,
 ⟨some 28, (.mov (.tmp 1)), (some (27, false))⟩,
 ⟨some 29, (.len (.tmp 28)), (some (27, false))⟩,
 ⟨some 30, (.bin .gtr (.tmp 29) (.const (.int .i64 40))), (some (27, false))⟩,
 ⟨some 31, (.pick (.tmp 27) (.const (.bool true)) (.tmp 30)), none⟩]) (.cond (.tmp 31) (.seq (.region [ 
 ⟨some 32, (.mov (.tmp 5)), none⟩,
 ⟨some 4, (.mov (.tmp 32)), none⟩]) .ret) .skip)) (.seq (.region [ 
 ⟨some 33, (.mov (.tmp 0)), none⟩,
 ⟨some 34, (.call (.func 11) [(.tmp 33), (.const (.int .i64 20))]), none⟩,
 ⟨some 6, (.mov (.tmp 34)), none⟩]) (.seq (.region [ 
 ⟨some 35, (.mov (.tmp 6)), none⟩,
 ⟨some 36, (.call (.func 10) [(.tmp 35)]), none⟩,
 ⟨some 7, (.mov (.tmp 36)), none⟩]) (.seq (.region [ 
 ⟨some 37, (.mov (.tmp 6)), none⟩,
 ⟨some 38, (.call (.func 21) [(.tmp 37)]), none⟩,
 ⟨some 8, (.mov (.tmp 38)), none⟩]) (.seq (.seq (.region [ 
 ⟨some 39, (.mov (.tmp 7)), none⟩,
 ⟨some 40, (.neq false (.tmp 39) (.const (.pointer none))), none⟩]) (.cond (.tmp 40) (.seq (.region [ 
 ⟨some 4, (.mov (.const (.bool false))), none⟩]) .ret) .skip)) (.seq (.region [ 
 ⟨some 9, (.mov (.const (.slice none 0 0))), none⟩]) (.seq (.seq (.region [ 
 ⟨some 10, (.mov (.const (.int .i64 0))), none⟩]) (.block 0 (.loop (.seq (.seq (.region [ 
 ⟨some 41, (.mov (.tmp 10)), none⟩,
 ⟨some 42, (.mov (.tmp 1)), none⟩,
 ⟨some 43, (.len (.tmp 42)), none⟩,
 ⟨some 44, (.bin .lss (.tmp 41) (.tmp 43)), none⟩]) (.cond (.tmp 44) .skip (.exit 0))) (.seq (.block 1 (.seq (.region [ 
 ⟨some 47, (.mov (.tmp 1)), none⟩,
 ⟨some 48, (.mov (.tmp 10)), none⟩,
 ⟨some 49, (.iaddr 10 (.tmp 47) (.tmp 48)), none⟩,
 ⟨some 50, (.loadN 10 (.tmp 49)), none⟩,
 ⟨some 11, (.alloc 54 [(.int .u8 0), (.int .i64 0), (.int .i64 0), (.int .u8 0), (.bool false), (.int .i64 0), (.int .i64 0), (.int .i64 0), (.int .i64 0), (.bool false)]), none⟩,
 ⟨none, (.store 10 (.tmp 11) (.tmp 50)), none⟩]) (.seq (.region [ 
 ⟨some 51, (.mov (.tmp 9)), none⟩,
 ⟨some 52, (.loadN 10 (.tmp 11)), none⟩,
 ⟨some 53, (.call (.func 22) [(.tmp 51), (.tmp 52)]), none⟩,
 ⟨some 12, (.alloc 30 [(.int .i64 0), (.int .i64 0), (.int .i64 0), (.int .i64 0), (.bool false)]), none⟩,
 ⟨none, (.store 5 (.tmp 12) (.tmp 53)), none⟩]) (.seq (.region [ 
 ⟨some 13, (.mov (.const (.bool false))), none⟩]) (.seq (.region [ 
 ⟨some 14, (.mov (.const (.bool false))), none⟩]) (.seq (.seq (.region [ 
 ⟨some 54, (.faddr 0 (.tmp 11)), none⟩,
 ⟨some 55, (.load1 (.tmp 54)), none⟩]) (.block 2 (.seq (.region [ 
 ⟨some 57, (.bin .eql (.tmp 55) (.const (.int .u8 0))), none⟩,
 ⟨some 56, (.mov (.tmp 57)), none⟩]) (.cond (.tmp 56) (.seq (.region [ 
 ⟨some 59, (.mov (.tmp 7)), none⟩,
 ⟨some 60, (.faddr 1 (.tmp 11)), none⟩,
 ⟨some 61, (.load1 (.tmp 60)), none⟩,
 ⟨some 62, (.call (.func 12) [(.tmp 59), (.tmp 61)]), none⟩,
 ⟨some 58, (.mov (.tmp 62)), none⟩,
 ⟨some 63, (.ext (.tmp 58) 0), none⟩,
 ⟨some 64, (.ext (.tmp 58) 1), none⟩,
 ⟨some 15, (.alloc 30 [(.int .i64 0), (.int .i64 0), (.int .i64 0), (.int .i64 0), (.bool false)]), none⟩,
 ⟨none, (.store 5 (.tmp 15) (.tmp 63)), none⟩,
 ⟨some 16, (.mov (.tmp 64)), none⟩]) (.seq (.region [ 
 ⟨some 66, (.mov (.tmp 8)), none⟩,
 ⟨some 67, (.faddr 1 (.tmp 11)), none⟩,
 ⟨some 68, (.load1 (.tmp 67)), none⟩,
 ⟨some 69, (.call (.func 23) [(.tmp 66), (.tmp 68)]), none⟩,
 ⟨some 65, (.mov (.tmp 69)), none⟩,
 ⟨some 70, (.ext (.tmp 65) 0), none⟩,
 ⟨some 71, (.ext (.tmp 65) 1), none⟩,
 ⟨some 17, (.alloc 30 [(.int .i64 0), (.int .i64 0), (.int .i64 0), (.int .i64 0), (.bool false)]), none⟩,
 ⟨none, (.store 5 (.tmp 17) (.tmp 70)), none⟩,
 ⟨some 18, (.mov (.tmp 71)), none⟩]) (.seq (.seq (.region [ 
 ⟨some 72, (.loadN 5 (.tmp 15)), none⟩,
 ⟨some 73, (.loadN 5 (.tmp 17)), none⟩,
 ⟨some 74, (.seq true [(0, true), (1, true), (2, true), (3, true), (4, false)] (.tmp 72) (.tmp 73)), none⟩,
 ⟨some 75, (.mov (.tmp 74)), none⟩,
 ⟨some 76, (.mov (.tmp 16)), (some (75, false))⟩,
 ⟨some 77, (.mov (.tmp 18)), (some (75, false))⟩,
 ⟨some 78, (.bin .neq (.tmp 76) (.tmp 77)), (some (75, false))⟩,
 ⟨some 79, (.pick (.tmp 75) (.const (.bool true)) (.tmp 78)), none⟩]) (.cond (.tmp 79) (.seq (.region [ 
 ⟨some 4, (.mov (.const (.bool false))), none⟩]) .ret) .skip)) (.seq (.region [ 
 ⟨some 80, (.mov (.tmp 16)), none⟩,
 ⟨some 81, (.bin .eql (.tmp 80) (.const (.int .i64 0))), none⟩]) (.cond (.tmp 81) (.region [ 
 ⟨some 82, (.mov (.tmp 9)), none⟩,
 ⟨some 83, (.loadN 5 (.tmp 15)), none⟩,
 ⟨some 84, (.bslice 30 [(.int .i64 0), (.int .i64 0), (.int .i64 0), (.int .i64 0), (.bool false)] 1 [(0, (5, (.tmp 83)))]), none⟩,
 ⟨some 85, (.app 30 5 40 (.tmp 82) (.tmp 84)), none⟩,
 ⟨some 9, (.mov (.tmp 85)), none⟩]) .skip))))) (.seq (.region [ 
 ⟨some 87, (.bin .eql (.tmp 55) (.const (.int .u8 1))), none⟩,
 ⟨some 86, (.mov (.tmp 87)), none⟩]) (.cond (.tmp 86) (.seq (.region [ 
 ⟨some 88, (.mov (.tmp 7)), none⟩,
 ⟨some 89, (.loadN 5 (.tmp 12)), none⟩,
 ⟨some 90, (.call (.func 24) [(.tmp 88), (.tmp 89)]), none⟩,
 ⟨some 13, (.mov (.tmp 90)), none⟩]) (.region [ 
 ⟨some 91, (.mov (.tmp 8)), none⟩,
 ⟨some 92, (.loadN 5 (.tmp 12)), none⟩,
 ⟨some 93, (.call (.func 25) [(.tmp 91), (.tmp 92)]), none⟩,
 ⟨some 14, (.mov (.tmp 93)), none⟩])) (.seq (.region [ 
 ⟨some 95, (.bin .eql (.tmp 55) (.const (.int .u8 2))), none⟩,
 ⟨some 94, (.mov (.tmp 95)), none⟩]) (.cond (.tmp 94) (.seq (.region [ 
 ⟨some 96, (.mov (.tmp 7)), none⟩,
 ⟨some 97, (.loadN 5 (.tmp 12)), none⟩,
 ⟨some 98, (.call (.func 13) [(.tmp 96), (.tmp 97)]), none⟩,
 ⟨some 13, (.mov (.tmp 98)), none⟩]) (.region [ 
 ⟨some 99, (.mov (.tmp 8)), none⟩,
 ⟨some 100, (.loadN 5 (.tmp 12)), none⟩,
 ⟨some 101, (.call (.func 26) [(.tmp 99), (.tmp 100)]), none⟩,
 ⟨some 14, (.mov (.tmp 101)), none⟩])) (.seq (.region [ 
 ⟨some 103, (.bin .eql (.tmp 55) (.const (.int .u8 3))), none⟩,
 ⟨some 102, (.mov (.tmp 103)), none⟩]) (.cond (.tmp 102) (.seq (.region [ 
 ⟨some 104, (.mov (.tmp 7)), none⟩,
 ⟨some 105, (.loadN 5 (.tmp 12)), none⟩,
 ⟨some 106, (.call (.func 14) [(.tmp 104), (.tmp 105)]), none⟩,
 ⟨some 13, (.mov (.tmp 106)), none⟩]) (.region [ 
 ⟨some 107, (.mov (.tmp 8)), none⟩,
 ⟨some 108, (.loadN 5 (.tmp 12)), none⟩,
 ⟨some 109, (.call (.func 27) [(.tmp 107), (.tmp 108)]), none⟩,
 ⟨some 14, (.mov (.tmp 109)), none⟩])) (.seq (.region [ 
 ⟨some 111, (.bin .eql (.tmp 55) (.const (.int .u8 4))), none⟩,
 ⟨some 110, (.mov (.tmp 111)), none⟩]) (.cond (.tmp 110) (.seq (.region [ 
 ⟨some 113, (.mov (.tmp 7)), none⟩,
 ⟨some 114, (.faddr 2 (.tmp 11)), none⟩,
 ⟨some 115, (.load1 (.tmp 114)), none⟩,
 ⟨some 116, (.faddr 1 (.tmp 11)), none⟩,
 ⟨some 117, (.load1 (.tmp 116)), none⟩,
 ⟨some 118, (.call (.func 28) [(.tmp 113), (.tmp 115), (.tmp 117)]), none⟩,
 ⟨some 112, (.mov (.tmp 118)), none⟩,
 ⟨some 119, (.ext (.tmp 112) 0), none⟩,
 ⟨some 120, (.ext (.tmp 112) 1), none⟩,
 ⟨some 19, (.mov (.tmp 119)), none⟩,
 ⟨some 20, (.mov (.tmp 120)), none⟩]) (.seq (.region [ 
 ⟨some 122, (.mov (.tmp 8)), none⟩,
 ⟨some 123, (.faddr 2 (.tmp 11)), none⟩,
 ⟨some 124, (.load1 (.tmp 123)), none⟩,
 ⟨some 125, (.faddr 1 (.tmp 11)), none⟩,
 ⟨some 126, (.load1 (.tmp 125)), none⟩,
 ⟨some 127, (.call (.func 29) [(.tmp 122), (.tmp 124), (.tmp 126)]), none⟩,
 ⟨some 121, (.mov (.tmp 127)), none⟩,
 ⟨some 128, (.ext (.tmp 121) 0), none⟩,
 ⟨some 129, (.ext (.tmp 121) 1), none⟩,
 ⟨some 21, (.mov (.tmp 128)), none⟩,
 ⟨some 22, (.mov (.tmp 129)), none⟩]) (.seq (.region [ 
 ⟨some 130, (.mov (.tmp 19)), none⟩,
 ⟨some 131, (.mov (.tmp 21)), none⟩,
 ⟨some 132, (.bin .neq (.tmp 130) (.tmp 131)), none⟩,
 ⟨some 133, (.mov (.tmp 132)), none⟩,
 ⟨some 134, (.mov (.tmp 20)), (some (133, false))⟩,
 ⟨some 135, (.mov (.tmp 22)), (some (133, false))⟩,
 ⟨some 136, (.bin .neq (.tmp 134) (.tmp 135)), (some (133, false))⟩,
 ⟨some 137, (.pick (.tmp 133) (.const (.bool true)) (.tmp 136)), none⟩]) (.cond (.tmp 137) (.seq (.region [ 
 ⟨some 4, (.mov (.const (.bool false))), none⟩]) .ret) .skip)))) .skip)))))))))))) (.seq (.seq (.region [ 
 ⟨some 138, (.faddr 0 (.tmp 11)), none⟩,
 ⟨some 139, (.load1 (.tmp 138)), none⟩,
 ⟨some 140, (.bin .eql (.tmp 139) (.const (.int .u8 5))), none⟩]) (.cond (.tmp 140) (.seq (.region [ 
 ⟨some 141, (.mov (.tmp 7)), none⟩,
 ⟨some 142, (.faddr 5 (.tmp 11)), none⟩,
 ⟨some 143, (.faddr 0 (.tmp 142)), none⟩,
 ⟨some 144, (.load1 (.tmp 143)), none⟩,
 ⟨some 145, (.call (.func 30) [(.tmp 141), (.tmp 144)]), none⟩,
 ⟨some 13, (.mov (.tmp 145)), none⟩]) (.region [ 
 ⟨some 146, (.mov (.tmp 8)), none⟩,
 ⟨some 147, (.faddr 5 (.tmp 11)), none⟩,
 ⟨some 148, (.faddr 0 (.tmp 147)), none⟩,
 ⟨some 149, (.load1 (.tmp 148)), none⟩,
 ⟨some 150, (.call (.func 31) [(.tmp 146), (.tmp 149)]), none⟩,
 ⟨some 14, (.mov (.tmp 150)), none⟩])) .skip)) (.seq (.region [ 
 ⟨some 151, (.mov (.tmp 13)), none⟩,
 ⟨some 152, (.mov (.tmp 14)), none⟩,
 ⟨some 153, (.beq true (.tmp 151) (.tmp 152)), none⟩,
 ⟨some 154, (.mov (.tmp 153)), none⟩,
 ⟨some 155, (.mov (.tmp 7)), (some (154, false))⟩,
 ⟨some 156, (.call (.func 16) [(.tmp 155)]), (some (154, false))⟩,
 ⟨some 157, (.mov (.tmp 8)), (some (154, false))⟩,
 ⟨some 158, (.call (.func 33) [(.tmp 157)]), (some (154, false))⟩,
 ⟨some 159, (.call (.func 32) [(.tmp 156), (.tmp 158)]), (some (154, false))⟩,
 ⟨some 160, (.un .not (.tmp 159)), (some (154, false))⟩,
 ⟨some 161, (.pick (.tmp 154) (.const (.bool true)) (.tmp 160)), none⟩,
 ⟨some 162, (.mov (.tmp 161)), none⟩,
 ⟨some 163, (.mov (.tmp 7)), (some (162, false))⟩,
 ⟨some 164, (.call (.func 35) [(.tmp 163)]), (some (162, false))⟩,
 ⟨some 165, (.mov (.tmp 8)), (some (162, false))⟩,
 ⟨some 166, (.call (.func 36) [(.tmp 165)]), (some (162, false))⟩,
 ⟨some 167, (.call (.func 34) [(.tmp 164), (.tmp 166)]), (some (162, false))⟩,
 ⟨some 168, (.un .not (.tmp 167)), (some (162, false))⟩,
 ⟨some 169, (.pick (.tmp 162) (.const (.bool true)) (.tmp 168)), none⟩]) (.cond (.tmp 169) (.seq (.region [ 
 ⟨some 4, (.mov (.const (.bool false))), none⟩]) .ret) .skip))))))))) (.region [ 
 ⟨some 45, (.mov (.tmp 10)), none⟩,
 ⟨some 46, (.bin .add (.tmp 45) (.const (.int .i64 1))), none⟩,
 ⟨some 10, (.mov (.tmp 46)), none⟩])))))) (.seq (.region [ 
 ⟨some 170, (.mov (.tmp 5)), none⟩,
 ⟨some 171, (.mov (.tmp 170)), none⟩,
 ⟨some 172, (.mov (.tmp 7)), (some (171, true))⟩,
 ⟨some 173, (.call (.func 16) [(.tmp 172)]), (some (171, true))⟩,
 ⟨some 174, (.mov (.tmp 8)), (some (171, true))⟩,
 ⟨some 175, (.call (.func 33) [(.tmp 174)]), (some (171, true))⟩,
 ⟨some 176, (.call (.func 32) [(.tmp 173), (.tmp 175)]), (some (171, true))⟩,
 ⟨some 177, (.pick (.tmp 171) (.tmp 176) (.const (.bool false))), none⟩,
 ⟨some 178, (.mov (.tmp 177)), none⟩,
 ⟨some 179, (.mov (.tmp 7)), (some (178, true))⟩,
 ⟨some 180, (.call (.func 35) [(.tmp 179)]), (some (178, true))⟩,
 ⟨some 181, (.mov (.tmp 8)), (some (178, true))⟩,
 ⟨some 182, (.call (.func 36) [(.tmp 181)]), (some (178, true))⟩,
 ⟨some 183, (.call (.func 34) [(.tmp 180), (.tmp 182)]), (some (178, true))⟩,
 ⟨some 184, (.pick (.tmp 178) (.tmp 183) (.const (.bool false))), none⟩,
 ⟨some 4, (.mov (.tmp 184)), none⟩]) .ret)))))))))), [(.tmp 4)]⟩
theorem ir5_ok : compFun Tryd.prog Tryd.f5 = some ir5 := by kernel_rfl

/- lockfast.lockfastlaw17.IndexDrops -/
def ir6 : IFun := ⟨111, (.seq (.region [ 
 ⟨some 6, (.mov (.const (.bool false))), none⟩]) (.seq (.region [ 
 ⟨some 18, (.call (.func 9) []), none⟩,
 ⟨some 7, (.mov (.tmp 18)), none⟩]) (.seq (.seq (.region [ 
 ⟨some 19, (.mov (.tmp 0)), none⟩,
 ⟨some 20, (.len (.tmp 19)), none⟩,
 ⟨some 21, (.bin .gtr (.tmp 20) (.const (.int .i64 40))), none⟩,
 ⟨some 22, (.mov (.tmp 21)), none⟩,
 ⟨some 23, (.mov (.tmp 1)), (some (22, false))⟩,
 ⟨some 24, (.len (.tmp 23)), (some (22, false))⟩,
 ⟨some 25, (.bin .gtr (.tmp 24) (.const (.int .i64 40))), (some (22, false))⟩,
 ⟨some 26, (.pick (.tmp 22) (.const (.bool true)) (.tmp 25)), none⟩]) (.cond (.tmp 26) (.seq (.region [ 
 ⟨some 27, (.mov (.tmp 7)), none⟩,
 ⟨some 6, (.mov (.tmp 27)), none⟩]) .ret) .skip)) (.seq (.region [ 
 ⟨some 28, (.mov (.tmp 0)), none⟩,
 ⟨some 29, (.call (.func 11) [(.tmp 28), (.const (.int .i64 20))]), none⟩,
 ⟨some 8, (.mov (.tmp 29)), none⟩]) (.seq (.region [ 
 ⟨some 30, (.mov (.tmp 8)), none⟩,
 ⟨some 31, (.call (.func 10) [(.tmp 30)]), none⟩,
 ⟨some 9, (.mov (.tmp 31)), none⟩]) (.seq (.seq (.region [ 
 ⟨some 32, (.mov (.tmp 9)), none⟩,
 ⟨some 33, (.neq false (.tmp 32) (.const (.pointer none))), none⟩]) (.cond (.tmp 33) (.seq (.region [ 
 ⟨some 6, (.mov (.const (.bool false))), none⟩]) .ret) .skip)) (.seq (.region [ 
 ⟨some 34, (.mov (.tmp 9)), none⟩,
 ⟨some 35, (.call (.func 35) [(.tmp 34)]), none⟩,
 ⟨some 10, (.mov (.tmp 35)), none⟩]) (.seq (.region [ 
 ⟨some 36, (.mov (.tmp 8)), none⟩,
 ⟨some 37, (.call (.func 37) [(.tmp 36)]), none⟩,
 ⟨some 11, (.mov (.tmp 37)), none⟩]) (.seq (.region [ 
 ⟨some 12, (.mov (.const (.slice none 0 0))), none⟩]) (.seq (.seq (.region [ 
 ⟨some 13, (.mov (.const (.int .i64 0))), none⟩]) (.block 0 (.loop (.seq (.seq (.region [ 
 ⟨some 38, (.mov (.tmp 13)), none⟩,
 ⟨some 39, (.mov (.tmp 1)), none⟩,
 ⟨some 40, (.len (.tmp 39)), none⟩,
 ⟨some 41, (.bin .lss (.tmp 38) (.tmp 40)), none⟩]) (.cond (.tmp 41) .skip (.exit 0))) (.seq (.block 1 (.seq (.region [ 
 ⟨some 45, (.mov (.tmp 9)), none⟩,
 ⟨some 46, (.mov (.tmp 1)), none⟩,
 ⟨some 47, (.mov (.tmp 13)), none⟩,
 ⟨some 48, (.iaddr 1 (.tmp 46) (.tmp 47)), none⟩,
 ⟨some 49, (.load1 (.tmp 48)), none⟩,
 ⟨some 50, (.bin .rem (.tmp 49) (.const (.int .u16 200))), none⟩,
 ⟨some 51, (.conv .i64 (.tmp 50)), none⟩,
 ⟨some 52, (.call (.func 12) [(.tmp 45), (.tmp 51)]), none⟩,
 ⟨some 44, (.mov (.tmp 52)), none⟩,
 ⟨some 53, (.ext (.tmp 44) 0), none⟩,
 ⟨some 54, (.ext (.tmp 44) 1), none⟩,
 ⟨some 14, (.alloc 30 [(.int .i64 0), (.int .i64 0), (.int .i64 0), (.int .i64 0), (.bool false)]), none⟩,
 ⟨none, (.store 5 (.tmp 14) (.tmp 53)), none⟩,
 ⟨some 15, (.mov (.tmp 54)), none⟩]) (.seq (.seq (.region [ 
 ⟨some 55, (.mov (.tmp 15)), none⟩,
 ⟨some 56, (.bin .eql (.tmp 55) (.const (.int .i64 0))), none⟩]) (.cond (.tmp 56) (.region [ 
 ⟨some 57, (.mov (.tmp 12)), none⟩,
 ⟨some 58, (.loadN 5 (.tmp 14)), none⟩,
 ⟨some 59, (.bslice 30 [(.int .i64 0), (.int .i64 0), (.int .i64 0), (.int .i64 0), (.bool false)] 1 [(0, (5, (.tmp 58)))]), none⟩,
 ⟨some 60, (.app 30 5 40 (.tmp 57) (.tmp 59)), none⟩,
 ⟨some 12, (.mov (.tmp 60)), none⟩]) .skip)) (.seq (.region [ 
 ⟨some 61, (.mov (.tmp 9)), none⟩,
 ⟨some 62, (.call (.func 16) [(.tmp 61)]), none⟩,
 ⟨some 63, (.call (.func 37) [(.tmp 62)]), none⟩,
 ⟨some 64, (.mov (.tmp 11)), none⟩,
 ⟨some 65, (.call (.func 38) [(.tmp 63), (.tmp 64)]), none⟩,
 ⟨some 66, (.un .not (.tmp 65)), none⟩]) (.cond (.tmp 66) (.seq (.region [ 
 ⟨some 6, (.mov (.const (.bool false))), none⟩]) .ret) .skip))))) (.region [ 
 ⟨some 42, (.mov (.tmp 13)), none⟩,
 ⟨some 43, (.bin .add (.tmp 42) (.const (.int .i64 1))), none⟩,
 ⟨some 13, (.mov (.tmp 43)), none⟩])))))) (.seq (.seq (.region [ 
 ⟨some 16, (.mov (.const (.int .i64 0))), none⟩]) (.block 2 (.loop (.seq (.seq (.region [ 
 ⟨some 67, (.mov (.tmp 16)), none⟩,
 ⟨some 68, (.mov (.tmp 12)), none⟩,
 ⟨some 69, (.len (.tmp 68)), none⟩,
 ⟨some 70, (.bin .lss (.tmp 67) (.tmp 69)), none⟩]) (.cond (.tmp 70) .skip (.exit 2))) (.seq (.block 3 (.seq (.region [ 
 ⟨some 73, (.mov (.tmp 12)), none⟩,
 ⟨some 74, (.mov (.tmp 16)), none⟩,
 ⟨some 75, (.mov (.tmp 2)), none⟩,
 ⟨some 76, (.conv .i64 (.tmp 75)), none⟩,
 ⟨some 77, (.bin .add (.tmp 74) (.tmp 76)), none⟩,
 ⟨some 78, (.mov (.tmp 12)), none⟩,
 ⟨some 79, (.len (.tmp 78)), none⟩,
 ⟨some 80, (.bin .rem (.tmp 77) (.tmp 79)), none⟩,
 ⟨some 81, (.iaddr 5 (.tmp 73) (.tmp 80)), none⟩,
 ⟨some 82, (.loadN 5 (.tmp 81)), none⟩,
 ⟨some 17, (.alloc 30 [(.int .i64 0), (.int .i64 0), (.int .i64 0), (.int .i64 0), (.bool false)]), none⟩,
 ⟨none, (.store 5 (.tmp 17) (.tmp 82)), none⟩]) (.seq (.region [ 
 ⟨some 83, (.mov (.tmp 9)), none⟩,
 ⟨some 84, (.loadN 5 (.tmp 17)), none⟩,
 ⟨some 85, (.call (.func 24) [(.tmp 83), (.tmp 84)]), none⟩,
 ⟨some 86, (.un .not (.tmp 85)), none⟩,
 ⟨some 87, (.mov (.tmp 86)), none⟩,
 ⟨some 88, (.mov (.tmp 9)), (some (87, false))⟩,
 ⟨some 89, (.loadN 5 (.tmp 17)), (some (87, false))⟩,
 ⟨some 90, (.call (.func 24) [(.tmp 88), (.tmp 89)]), (some (87, false))⟩,
 ⟨some 91, (.pick (.tmp 87) (.const (.bool true)) (.tmp 90)), none⟩,
 ⟨some 92, (.mov (.tmp 91)), none⟩,
 ⟨some 93, (.mov (.tmp 9)), (some (92, false))⟩,
 ⟨some 94, (.loadN 5 (.tmp 17)), (some (92, false))⟩,
 ⟨some 95, (.call (.func 13) [(.tmp 93), (.tmp 94)]), (some (92, false))⟩,
 ⟨some 96, (.pick (.tmp 92) (.const (.bool true)) (.tmp 95)), none⟩]) (.cond (.tmp 96) (.seq (.region [ 
 ⟨some 6, (.mov (.const (.bool false))), none⟩]) .ret) .skip)))) (.region [ 
 ⟨some 71, (.mov (.tmp 16)), none⟩,
 ⟨some 72, (.bin .add (.tmp 71) (.const (.int .i64 1))), none⟩,
 ⟨some 16, (.mov (.tmp 72)), none⟩])))))) (.seq (.region [ 
 ⟨some 97, (.mov (.tmp 7)), none⟩,
 ⟨some 98, (.mov (.tmp 97)), none⟩,
 ⟨some 99, (.mov (.tmp 9)), (some (98, true))⟩,
 ⟨some 100, (.call (.func 35) [(.tmp 99)]), (some (98, true))⟩,
 ⟨some 101, (.mov (.tmp 10)), (some (98, true))⟩,
 ⟨some 102, (.call (.func 34) [(.tmp 100), (.tmp 101)]), (some (98, true))⟩,
 ⟨some 103, (.pick (.tmp 98) (.tmp 102) (.const (.bool false))), none⟩,
 ⟨some 104, (.mov (.tmp 103)), none⟩,
 ⟨some 105, (.mov (.tmp 9)), (some (104, true))⟩,
 ⟨some 106, (.call (.func 16) [(.tmp 105)]), (some (104, true))⟩,
 ⟨some 107, (.call (.func 37) [(.tmp 106)]), (some (104, true))⟩,
 ⟨some 108, (.mov (.tmp 11)), (some (104, true))⟩,
 ⟨some 109, (.call (.func 38) [(.tmp 107), (.tmp 108)]), (some (104, true))⟩,
 ⟨some 110, (.pick (.tmp 104) (.tmp 109) (.const (.bool false))), none⟩,
 ⟨some 6, (.mov (.tmp 110)), none⟩]) .ret)))))))))))), [(.tmp 6)]⟩
theorem ir6_ok : compFun Tryd.prog Tryd.f6 = some ir6 := by kernel_rfl

/- lockfast.lockfastlaw17.IndexApart -/
def ir7 : IFun := ⟨169, (.seq (.region [ 
 ⟨some 4, (.mov (.const (.bool false))), none⟩]) (.seq (.region [ 
 ⟨some 22, (.call (.func 9) []), none⟩,
 ⟨some 5, (.mov (.tmp 22)), none⟩]) (.seq (.seq (.region [ 
 ⟨some 23, (.mov (.tmp 0)), none⟩,
 ⟨some 24, (.len (.tmp 23)), none⟩,
 ⟨some 25, (.bin .gtr (.tmp 24) (.const (.int .i64 40))), none⟩,
 ⟨some 26, (.mov (.tmp 25)), none⟩,
 ⟨some 27, (.mov (.tmp 1)), (some (26, false))⟩,
 ⟨some 28, (.len (.tmp 27)), (some (26, false))⟩,
 ⟨some 29, (.bin .gtr (.tmp 28) (.const (.int .i64 40))), (some (26, false))⟩,
 ⟨some 30, (.pick (.tmp 26) (.const (.bool true)) (.tmp 29)), none⟩]) (.cond (.tmp 30) (.seq (.region [ 
 ⟨some 31, (.mov (.tmp 5)), none⟩,
 ⟨some 4, (.mov (.tmp 31)), none⟩]) .ret) .skip)) (.seq (.region [ 
 ⟨some 32, (.mov (.tmp 0)), none⟩,
 ⟨some 33, (.call (.func 11) [(.tmp 32), (.const (.int .i64 20))]), none⟩,
 ⟨some 6, (.mov (.tmp 33)), none⟩]) (.seq (.region [ 
 ⟨some 34, (.mov (.tmp 6)), none⟩,
 ⟨some 35, (.call (.func 10) [(.tmp 34)]), none⟩,
 ⟨some 7, (.mov (.tmp 35)), none⟩]) (.seq (.seq (.region [ 
 ⟨some 36, (.mov (.tmp 7)), none⟩,
 ⟨some 37, (.neq false (.tmp 36) (.const (.pointer none))), none⟩]) (.cond (.tmp 37) (.seq (.region [ 
 ⟨some 4, (.mov (.const (.bool false))), none⟩]) .ret) .skip)) (.seq (.region [ 
 ⟨some 38, (.mov (.tmp 6)), none⟩,
 ⟨some 39, (.call (.func 37) [(.tmp 38)]), none⟩,
 ⟨some 8, (.mov (.tmp 39)), none⟩]) (.seq (.region [ 
 ⟨some 9, (.mov (.const (.int .i64 0))), none⟩]) (.seq (.seq (.region [ 
 ⟨some 10, (.mov (.const (.int .i64 0))), none⟩]) (.block 0 (.loop (.seq (.seq (.region [ 
 ⟨some 40, (.mov (.tmp 10)), none⟩,
 ⟨some 41, (.mov (.tmp 1)), none⟩,
 ⟨some 42, (.len (.tmp 41)), none⟩,
 ⟨some 43, (.bin .lss (.tmp 40) (.tmp 42)), none⟩]) (.cond (.tmp 43) .skip (.exit 0))) (.seq (.block 1 (.seq (.region [ 
 ⟨some 46, (.mov (.tmp 1)), none⟩,
 ⟨some 47, (.mov (.tmp 10)), none⟩,
 ⟨some 48, (.iaddr 1 (.tmp 46) (.tmp 47)), none⟩,
 ⟨some 49, (.load1 (.tmp 48)), none⟩,
 ⟨some 50, (.bin .rem (.tmp 49) (.const (.int .u16 200))), none⟩,
 ⟨some 51, (.conv .i64 (.tmp 50)), none⟩,
 ⟨some 11, (.mov (.tmp 51)), none⟩]) (.seq (.region [ 
 ⟨some 53, (.mov (.tmp 7)), none⟩,
 ⟨some 54, (.mov (.tmp 11)), none⟩,
 ⟨some 55, (.call (.func 12) [(.tmp 53), (.tmp 54)]), none⟩,
 ⟨some 52, (.mov (.tmp 55)), none⟩,
 ⟨some 56, (.ext (.tmp 52) 0), none⟩,
 ⟨some 57, (.ext (.tmp 52) 1), none⟩,
 ⟨some 12, (.alloc 30 [(.int .i64 0), (.int .i64 0), (.int .i64 0), (.int .i64 0), (.bool false)]), none⟩,
 ⟨none, (.store 5 (.tmp 12) (.tmp 56)), none⟩,
 ⟨some 13, (.mov (.tmp 57)), none⟩]) (.seq (.seq (.region [ 
 ⟨some 58, (.mov (.tmp 13)), none⟩,
 ⟨some 59, (.bin .eql (.tmp 58) (.const (.int .i64 2))), none⟩]) (.cond (.tmp 59) (.exit 1) .skip)) (.seq (.seq (.region [ 
 ⟨some 60, (.mov (.tmp 13)), none⟩,
 ⟨some 61, (.bin .neq (.tmp 60) (.const (.int .i64 0))), none⟩]) (.cond (.tmp 61) (.seq (.region [ 
 ⟨some 4, (.mov (.const (.bool false))), none⟩]) .ret) .skip)) (.seq (.region [ 
 ⟨some 62, (.mov (.tmp 7)), none⟩,
 ⟨some 63, (.call (.func 16) [(.tmp 62)]), none⟩,
 ⟨some 64, (.call (.func 37) [(.tmp 63)]), none⟩,
 ⟨some 14, (.mov (.tmp 64)), none⟩]) (.seq (.seq (.region [ 
 ⟨some 65, (.mov (.tmp 7)), none⟩,
 ⟨some 66, (.loadN 5 (.tmp 12)), none⟩,
 ⟨some 67, (.call (.func 13) [(.tmp 65), (.tmp 66)]), none⟩,
 ⟨some 68, (.un .not (.tmp 67)), none⟩,
 ⟨some 69, (.mov (.tmp 68)), none⟩,
 ⟨some 70, (.mov (.tmp 7)), (some (69, false))⟩,
 ⟨some 71, (.loadN 5 (.tmp 12)), (some (69, false))⟩,
 ⟨some 72, (.call (.func 13) [(.tmp 70), (.tmp 71)]), (some (69, false))⟩,
 ⟨some 73, (.pick (.tmp 69) (.const (.bool true)) (.tmp 72)), none⟩,
 ⟨some 74, (.mov (.tmp 73)), none⟩,
 ⟨some 75, (.mov (.tmp 7)), (some (74, false))⟩,
 ⟨some 76, (.loadN 5 (.tmp 12)), (some (74, false))⟩,
 ⟨some 77, (.call (.func 24) [(.tmp 75), (.tmp 76)]), (some (74, false))⟩,
 ⟨some 78, (.pick (.tmp 74) (.const (.bool true)) (.tmp 77)), none⟩]) (.cond (.tmp 78) (.seq (.region [ 
 ⟨some 4, (.mov (.const (.bool false))), none⟩]) .ret) .skip)) (.seq (.region [ 
 ⟨some 79, (.mov (.tmp 7)), none⟩,
 ⟨some 80, (.call (.func 16) [(.tmp 79)]), none⟩,
 ⟨some 81, (.call (.func 37) [(.tmp 80)]), none⟩,
 ⟨some 15, (.mov (.tmp 81)), none⟩]) (.seq (.seq (.region [ 
 ⟨some 82, (.mov (.tmp 15)), none⟩,
 ⟨some 83, (.len (.tmp 82)), none⟩,
 ⟨some 84, (.mov (.tmp 14)), none⟩,
 ⟨some 85, (.len (.tmp 84)), none⟩,
 ⟨some 86, (.bin .add (.tmp 85) (.const (.int .i64 1))), none⟩,
 ⟨some 87, (.bin .neq (.tmp 83) (.tmp 86)), none⟩,
 ⟨some 88, (.mov (.tmp 87)), none⟩,
 ⟨some 89, (.mov (.tmp 7)), (some (88, false))⟩,
 ⟨some 90, (.call (.func 16) [(.tmp 89)]), (some (88, false))⟩,
 ⟨some 91, (.call (.func 39) [(.tmp 90)]), (some (88, false))⟩,
 ⟨some 92, (.un .not (.tmp 91)), (some (88, false))⟩,
 ⟨some 93, (.pick (.tmp 88) (.const (.bool true)) (.tmp 92)), none⟩]) (.cond (.tmp 93) (.seq (.region [ 
 ⟨some 4, (.mov (.const (.bool false))), none⟩]) .ret) .skip)) (.seq (.region [ 
 ⟨some 94, (.mov (.tmp 9)), none⟩,
 ⟨some 95, (.bin .add (.tmp 94) (.const (.int .i64 1))), none⟩,
 ⟨some 9, (.mov (.tmp 95)), none⟩]) (.seq (.region [ 
 ⟨some 16, (.mov (.const (.bool false))), none⟩]) (.seq (.seq (.region [ 
 ⟨some 17, (.mov (.const (.int .i64 0))), none⟩]) (.block 2 (.loop (.seq (.seq (.region [ 
 ⟨some 96, (.mov (.tmp 17)), none⟩,
 ⟨some 97, (.mov (.tmp 15)), none⟩,
 ⟨some 98, (.len (.tmp 97)), none⟩,
 ⟨some 99, (.bin .lss (.tmp 96) (.tmp 98)), none⟩]) (.cond (.tmp 99) .skip (.exit 2))) (.seq (.block 3 (.seq (.draw [ 
 ⟨some 102, (.mov (.tmp 15)), none⟩,
 ⟨some 103, (.mov (.tmp 17)), none⟩,
 ⟨some 104, (.iaddr 3 (.tmp 102) (.tmp 103)), none⟩,
 ⟨some 105, (.faddr 0 (.tmp 104)), none⟩,
 ⟨some 106, (.load1 (.tmp 105)), none⟩,
 ⟨some 107, (.faddr 0 (.tmp 12)), none⟩,
 ⟨some 108, (.load1 (.tmp 107)), none⟩,
 ⟨some 109, (.bin .eql (.tmp 106) (.tmp 108)), none⟩,
 ⟨some 110, (.mov (.tmp 109)), none⟩,
 ⟨some 111, (.mov (.tmp 15)), (some (110, true))⟩,
 ⟨some 112, (.mov (.tmp 17)), (some (110, true))⟩,
 ⟨some 113, (.iaddr 3 (.tmp 111) (.tmp 112)), (some (110, true))⟩,
 ⟨some 114, (.faddr 1 (.tmp 113)), (some (110, true))⟩,
 ⟨some 115, (.load1 (.tmp 114)), (some (110, true))⟩,
 ⟨some 116, (.faddr 1 (.tmp 12)), (some (110, true))⟩,
 ⟨some 117, (.load1 (.tmp 116)), (some (110, true))⟩,
 ⟨some 118, (.bin .eql (.tmp 115) (.tmp 117)), (some (110, true))⟩,
 ⟨some 119, (.pick (.tmp 110) (.tmp 118) (.const (.bool false))), none⟩] []) (.cond (.tmp 119) (.region [ 
 ⟨some 120, (.mov (.tmp 15)), none⟩,
 ⟨some 121, (.mov (.tmp 17)), none⟩,
 ⟨some 122, (.iaddr 3 (.tmp 120) (.tmp 121)), none⟩,
 ⟨some 123, (.faddr 2 (.tmp 122)), none⟩,
 ⟨some 124, (.load1 (.tmp 123)), none⟩,
 ⟨some 125, (.mov (.tmp 11)), none⟩,
 ⟨some 126, (.bin .add (.tmp 125) (.const (.int .i64 2))), none⟩,
 ⟨some 127, (.bin .geq (.tmp 124) (.tmp 126)), none⟩,
 ⟨some 16, (.mov (.tmp 127)), none⟩]) .skip))) (.region [ 
 ⟨some 100, (.mov (.tmp 17)), none⟩,
 ⟨some 101, (.bin .add (.tmp 100) (.const (.int .i64 1))), none⟩,
 ⟨some 17, (.mov (.tmp 101)), none⟩])))))) (.seq (.region [ 
 ⟨some 128, (.mov (.tmp 16)), none⟩,
 ⟨some 129, (.un .not (.tmp 128)), none⟩]) (.cond (.tmp 129) (.seq (.region [ 
 ⟨some 4, (.mov (.const (.bool false))), none⟩]) .ret) .skip)))))))))))))) (.region [ 
 ⟨some 44, (.mov (.tmp 10)), none⟩,
 ⟨some 45, (.bin .add (.tmp 44) (.const (.int .i64 1))), none⟩,
 ⟨some 10, (.mov (.tmp 45)), none⟩])))))) (.seq (.region [ 
 ⟨some 130, (.mov (.tmp 7)), none⟩,
 ⟨some 131, (.call (.func 16) [(.tmp 130)]), none⟩,
 ⟨some 132, (.call (.func 37) [(.tmp 131)]), none⟩,
 ⟨some 18, (.mov (.tmp 132)), none⟩]) (.seq (.seq (.region [ 
 ⟨some 19, (.mov (.const (.int .i64 0))), none⟩]) (.block 4 (.loop (.seq (.seq (.region [ 
 ⟨some 133, (.mov (.tmp 19)), none⟩,
 ⟨some 134, (.mov (.tmp 8)), none⟩,
 ⟨some 135, (.len (.tmp 134)), none⟩,
 ⟨some 136, (.bin .lss (.tmp 133) (.tmp 135)), none⟩]) (.cond (.tmp 136) .skip (.exit 4))) (.seq (.block 5 (.seq (.region [ 
 ⟨some 20, (.mov (.const (.bool false))), none⟩]) (.seq (.seq (.region [ 
 ⟨some 21, (.mov (.const (.int .i64 0))), none⟩]) (.block 6 (.loop (.seq (.seq (.region [ 
 ⟨some 139, (.mov (.tmp 21)), none⟩,
 ⟨some 140, (.mov (.tmp 18)), none⟩,
 ⟨some 141, (.len (.tmp 140)), none⟩,
 ⟨some 142, (.bin .lss (.tmp 139) (.tmp 141)), none⟩]) (.cond (.tmp 142) .skip (.exit 6))) (.seq (.block 7 (.draw [ 
 ⟨some 145, (.mov (.tmp 20)), none⟩,
 ⟨some 146, (.mov (.tmp 145)), none⟩,
 ⟨some 147, (.mov (.tmp 18)), (some (146, false))⟩,
 ⟨some 148, (.mov (.tmp 21)), (some (146, false))⟩,
 ⟨some 149, (.iaddr 3 (.tmp 147) (.tmp 148)), (some (146, false))⟩,
 ⟨some 150, (.loadN 3 (.tmp 149)), (some (146, false))⟩,
 ⟨some 151, (.mov (.tmp 8)), (some (146, false))⟩,
 ⟨some 152, (.mov (.tmp 19)), (some (146, false))⟩,
 ⟨some 153, (.iaddr 3 (.tmp 151) (.tmp 152)), (some (146, false))⟩,
 ⟨some 154, (.loadN 3 (.tmp 153)), (some (146, false))⟩,
 ⟨some 155, (.seq false [(0, true), (1, true), (2, true)] (.tmp 150) (.tmp 154)), (some (146, false))⟩,
 ⟨some 156, (.pick (.tmp 146) (.const (.bool true)) (.tmp 155)), none⟩,
 ⟨some 20, (.mov (.tmp 156)), none⟩] [])) (.region [ 
 ⟨some 143, (.mov (.tmp 21)), none⟩,
 ⟨some 144, (.bin .add (.tmp 143) (.const (.int .i64 1))), none⟩,
 ⟨some 21, (.mov (.tmp 144)), none⟩])))))) (.seq (.region [ 
 ⟨some 157, (.mov (.tmp 20)), none⟩,
 ⟨some 158, (.un .not (.tmp 157)), none⟩]) (.cond (.tmp 158) (.seq (.region [ 
 ⟨some 4, (.mov (.const (.bool false))), none⟩]) .ret) .skip))))) (.region [ 
 ⟨some 137, (.mov (.tmp 19)), none⟩,
 ⟨some 138, (.bin .add (.tmp 137) (.const (.int .i64 1))), none⟩,
 ⟨some 19, (.mov (.tmp 138)), none⟩])))))) (.seq (.region [ 
 ⟨some 159, (.mov (.tmp 5)), none⟩,
 ⟨some 160, (.mov (.tmp 159)), none⟩,
 ⟨some 161, (.mov (.tmp 18)), (some (160, true))⟩,
 ⟨some 162, (.len (.tmp 161)), (some (160, true))⟩,
 ⟨some 163, (.mov (.tmp 8)), (some (160, true))⟩,
 ⟨some 164, (.len (.tmp 163)), (some (160, true))⟩,
 ⟨some 165, (.mov (.tmp 9)), (some (160, true))⟩,
 ⟨some 166, (.bin .add (.tmp 164) (.tmp 165)), (some (160, true))⟩,
 ⟨some 167, (.bin .eql (.tmp 162) (.tmp 166)), (some (160, true))⟩,
 ⟨some 168, (.pick (.tmp 160) (.tmp 167) (.const (.bool false))), none⟩,
 ⟨some 4, (.mov (.tmp 168)), none⟩]) .ret)))))))))))), [(.tmp 4)]⟩
theorem ir7_ok : compFun Tryd.prog Tryd.f7 = some ir7 := by kernel_rfl

/- lockfast.lockfastlaw17.IndexTable -/
def ir8 : IFun := ⟨100, (.seq (.region [ 
 ⟨some 2, (.mov (.const (.bool false))), none⟩]) (.seq (.region [ 
 ⟨some 12, (.call (.func 9) []), none⟩,
 ⟨some 3, (.mov (.tmp 12)), none⟩]) (.seq (.seq (.region [ 
 ⟨some 13, (.mov (.tmp 0)), none⟩,
 ⟨some 14, (.len (.tmp 13)), none⟩,
 ⟨some 15, (.bin .gtr (.tmp 14) (.const (.int .i64 40))), none⟩]) (.cond (.tmp 15) (.seq (.region [ 
 ⟨some 16, (.mov (.tmp 3)), none⟩,
 ⟨some 2, (.mov (.tmp 16)), none⟩]) .ret) .skip)) (.seq (.region [ 
 ⟨some 17, (.mov (.tmp 0)), none⟩,
 ⟨some 18, (.call (.func 11) [(.tmp 17), (.const (.int .i64 20))]), none⟩,
 ⟨some 4, (.mov (.tmp 18)), none⟩]) (.seq (.region [ 
 ⟨some 19, (.mov (.tmp 4)), none⟩,
 ⟨some 20, (.call (.func 10) [(.tmp 19)]), none⟩,
 ⟨some 5, (.mov (.tmp 20)), none⟩]) (.seq (.seq (.region [ 
 ⟨some 21, (.mov (.tmp 5)), none⟩,
 ⟨some 22, (.neq false (.tmp 21) (.const (.pointer none))), none⟩]) (.cond (.tmp 22) (.seq (.region [ 
 ⟨some 2, (.mov (.const (.bool false))), none⟩]) .ret) .skip)) (.seq (.seq (.region [ 
 ⟨some 23, (.mov (.tmp 4)), none⟩,
 ⟨some 24, (.call (.func 37) [(.tmp 23)]), none⟩,
 ⟨some 25, (.len (.tmp 24)), none⟩,
 ⟨some 26, (.mov (.const (.int .i64 0))), none⟩]) (.block 0 (.loop (.seq (.region [ 
 ⟨some 27, (.bin .lss (.tmp 26) (.tmp 25)), none⟩]) (.seq (.cond (.tmp 27) .skip (.exit 0)) (.seq (.block 1 (.seq (.region [ 
 ⟨some 28, (.iaddr 3 (.tmp 24) (.tmp 26)), none⟩,
 ⟨some 29, (.loadN 3 (.tmp 28)), none⟩,
 ⟨some 7, (.alloc 69 [(.int .i64 0), (.int .i64 0), (.int .i64 0)]), none⟩,
 ⟨none, (.store 3 (.tmp 7) (.tmp 29)), none⟩]) (.seq (.region [ 
 ⟨some 30, (.faddr 0 (.tmp 7)), none⟩,
 ⟨some 31, (.load1 (.tmp 30)), none⟩,
 ⟨some 32, (.faddr 1 (.tmp 7)), none⟩,
 ⟨some 33, (.load1 (.tmp 32)), none⟩,
 ⟨some 34, (.build [(.int .i64 0), (.int .i64 0), (.int .i64 0), (.int .i64 0), (.bool false)] [(0, (1, (.tmp 31))), (1, (1, (.tmp 33)))]), none⟩,
 ⟨some 8, (.alloc 30 [(.int .i64 0), (.int .i64 0), (.int .i64 0), (.int .i64 0), (.bool false)]), none⟩,
 ⟨none, (.store 5 (.tmp 8) (.tmp 34)), none⟩]) (.seq (.seq (.region [ 
 ⟨some 9, (.mov (.const (.int .i64 0))), none⟩]) (.block 2 (.loop (.seq (.seq (.region [ 
 ⟨some 35, (.mov (.tmp 9)), none⟩,
 ⟨some 36, (.bin .lss (.tmp 35) (.const (.int .i64 3))), none⟩]) (.cond (.tmp 36) .skip (.exit 2))) (.seq (.block 3 (.seq (.draw [ 
 ⟨some 39, (.mov (.tmp 9)), none⟩,
 ⟨some 40, (.call (.func 40) [(.tmp 39)]), none⟩,
 ⟨some 41, (.faddr 2 (.tmp 7)), none⟩,
 ⟨some 42, (.load1 (.tmp 41)), none⟩,
 ⟨some 43, (.bin .eql (.tmp 40) (.tmp 42)), none⟩] [(1, 3)]) (.cond (.tmp 43) (.region [ 
 ⟨some 44, (.mov (.tmp 9)), none⟩,
 ⟨some 45, (.faddr 2 (.tmp 8)), none⟩,
 ⟨none, (.store 1 (.tmp 45) (.tmp 44)), none⟩]) .skip))) (.region [ 
 ⟨some 37, (.mov (.tmp 9)), none⟩,
 ⟨some 38, (.bin .add (.tmp 37) (.const (.int .i64 1))), none⟩,
 ⟨some 9, (.mov (.tmp 38)), none⟩])))))) (.seq (.seq (.region [ 
 ⟨some 46, (.faddr 2 (.tmp 7)), none⟩,
 ⟨some 47, (.load1 (.tmp 46)), none⟩,
 ⟨some 48, (.bin .geq (.tmp 47) (.const (.int .i64 32))), none⟩]) (.cond (.tmp 48) (.seq (.region [ 
 ⟨some 49, (.faddr 2 (.tmp 8)), none⟩,
 ⟨none, (.store 1 (.tmp 49) (.const (.int .i64 (-1)))), none⟩]) (.region [ 
 ⟨some 50, (.faddr 2 (.tmp 7)), none⟩,
 ⟨some 51, (.load1 (.tmp 50)), none⟩,
 ⟨some 52, (.bin .quo (.tmp 51) (.const (.int .i64 32))), none⟩,
 ⟨some 53, (.faddr 3 (.tmp 8)), none⟩,
 ⟨none, (.store 1 (.tmp 53) (.tmp 52)), none⟩])) .skip)) (.seq (.seq (.region [ 
 ⟨some 54, (.mov (.tmp 5)), none⟩,
 ⟨some 55, (.loadN 5 (.tmp 8)), none⟩,
 ⟨some 56, (.call (.func 24) [(.tmp 54), (.tmp 55)]), none⟩,
 ⟨some 57, (.mov (.tmp 56)), none⟩,
 ⟨some 58, (.mov (.tmp 5)), (some (57, false))⟩,
 ⟨some 59, (.loadN 5 (.tmp 8)), (some (57, false))⟩,
 ⟨some 60, (.call (.func 13) [(.tmp 58), (.tmp 59)]), (some (57, false))⟩,
 ⟨some 61, (.pick (.tmp 57) (.const (.bool true)) (.tmp 60)), none⟩]) (.cond (.tmp 61) (.seq (.region [ 
 ⟨some 2, (.mov (.const (.bool false))), none⟩]) .ret) .skip)) (.seq (.region [ 
 ⟨some 62, (.mov (.tmp 4)), none⟩,
 ⟨some 63, (.call (.func 10) [(.tmp 62)]), none⟩,
 ⟨some 10, (.mov (.tmp 63)), none⟩]) (.seq (.seq (.region [ 
 ⟨some 64, (.mov (.tmp 10)), none⟩,
 ⟨some 65, (.neq false (.tmp 64) (.const (.pointer none))), none⟩]) (.cond (.tmp 65) (.seq (.region [ 
 ⟨some 2, (.mov (.const (.bool false))), none⟩]) .ret) .skip)) (.seq (.seq (.region [ 
 ⟨some 66, (.mov (.tmp 10)), none⟩,
 ⟨some 67, (.loadN 5 (.tmp 8)), none⟩,
 ⟨some 68, (.call (.func 14) [(.tmp 66), (.tmp 67)]), none⟩,
 ⟨some 69, (.un .not (.tmp 68)), none⟩,
 ⟨some 70, (.mov (.tmp 69)), none⟩,
 ⟨some 71, (.mov (.tmp 10)), (some (70, false))⟩,
 ⟨some 72, (.loadN 5 (.tmp 8)), (some (70, false))⟩,
 ⟨some 73, (.call (.func 14) [(.tmp 71), (.tmp 72)]), (some (70, false))⟩,
 ⟨some 74, (.pick (.tmp 70) (.const (.bool true)) (.tmp 73)), none⟩]) (.cond (.tmp 74) (.seq (.region [ 
 ⟨some 2, (.mov (.const (.bool false))), none⟩]) .ret) .skip)) (.seq (.region [ 
 ⟨some 75, (.mov (.tmp 10)), none⟩,
 ⟨some 76, (.call (.func 16) [(.tmp 75)]), none⟩,
 ⟨some 77, (.call (.func 37) [(.tmp 76)]), none⟩,
 ⟨some 78, (.len (.tmp 77)), none⟩,
 ⟨some 11, (.mov (.tmp 78)), none⟩]) (.seq (.region [ 
 ⟨some 79, (.mov (.tmp 11)), none⟩,
 ⟨some 80, (.mov (.tmp 4)), none⟩,
 ⟨some 81, (.call (.func 37) [(.tmp 80)]), none⟩,
 ⟨some 82, (.len (.tmp 81)), none⟩,
 ⟨some 83, (.bin .sub (.tmp 82) (.const (.int .i64 1))), none⟩,
 ⟨some 84, (.bin .neq (.tmp 79) (.tmp 83)), none⟩]) (.cond (.tmp 84) (.seq (.region [ 
 ⟨some 2, (.mov (.const (.bool false))), none⟩]) .ret) .skip)))))))))))) (.region [ 
 ⟨some 85, (.bin .add (.tmp 26) (.const (.int .i64 1))), none⟩,
 ⟨some 26, (.mov (.tmp 85)), none⟩]))))))) (.seq (.region [ 
 ⟨some 86, (.mov (.tmp 3)), none⟩,
 ⟨some 87, (.mov (.tmp 86)), none⟩,
 ⟨some 88, (.mov (.tmp 5)), (some (87, true))⟩,
 ⟨some 89, (.call (.func 16) [(.tmp 88)]), (some (87, true))⟩,
 ⟨some 90, (.mov (.tmp 4)), (some (87, true))⟩,
 ⟨some 91, (.call (.func 32) [(.tmp 89), (.tmp 90)]), (some (87, true))⟩,
 ⟨some 92, (.pick (.tmp 87) (.tmp 91) (.const (.bool false))), none⟩,
 ⟨some 93, (.mov (.tmp 92)), none⟩,
 ⟨some 94, (.mov (.tmp 5)), (some (93, true))⟩,
 ⟨some 95, (.call (.func 35) [(.tmp 94)]), (some (93, true))⟩,
 ⟨some 96, (.mov (.tmp 4)), (some (93, true))⟩,
 ⟨some 97, (.call (.func 15) [(.tmp 96)]), (some (93, true))⟩,
 ⟨some 98, (.call (.func 34) [(.tmp 95), (.tmp 97)]), (some (93, true))⟩,
 ⟨some 99, (.pick (.tmp 93) (.tmp 98) (.const (.bool false))), none⟩,
 ⟨some 2, (.mov (.tmp 99)), none⟩]) .ret)))))))), [(.tmp 2)]⟩
theorem ir8_ok : compFun Tryd.prog Tryd.f8 = some ir8 := by kernel_rfl

/- lockfast.lockfastlaw17.awake -/
def ir9 : IFun := ⟨93, (.seq (.region [ 
 ⟨some 0, (.mov (.const (.bool false))), none⟩]) (.seq (.region [ 
 ⟨some 12, (.bslice 45 [(ub 0#64), (ub 0#64)] 2 [(0, (1, (.const (ub 0#64)))), (1, (1, (.const (ub 0#64))))]), none⟩,
 ⟨some 13, (.call (.func 10) [(.tmp 12)]), none⟩,
 ⟨some 1, (.mov (.tmp 13)), none⟩]) (.seq (.seq (.region [ 
 ⟨some 14, (.mov (.tmp 1)), none⟩,
 ⟨some 15, (.neq false (.tmp 14) (.const (.pointer none))), none⟩]) (.cond (.tmp 15) (.seq (.region [ 
 ⟨some 0, (.mov (.const (.bool false))), none⟩]) .ret) .skip)) (.seq (.region [ 
 ⟨some 17, (.mov (.tmp 1)), none⟩,
 ⟨some 18, (.call (.func 12) [(.tmp 17), (.const (.int .i64 2))]), none⟩,
 ⟨some 16, (.mov (.tmp 18)), none⟩,
 ⟨some 19, (.ext (.tmp 16) 0), none⟩,
 ⟨some 20, (.ext (.tmp 16) 1), none⟩,
 ⟨some 2, (.alloc 30 [(.int .i64 0), (.int .i64 0), (.int .i64 0), (.int .i64 0), (.bool false)]), none⟩,
 ⟨none, (.store 5 (.tmp 2) (.tmp 19)), none⟩,
 ⟨some 3, (.mov (.tmp 20)), none⟩]) (.seq (.region [ 
 ⟨some 22, (.mov (.tmp 1)), none⟩,
 ⟨some 23, (.call (.func 12) [(.tmp 22), (.const (.int .i64 2))]), none⟩,
 ⟨some 21, (.mov (.tmp 23)), none⟩,
 ⟨some 24, (.ext (.tmp 21) 0), none⟩,
 ⟨some 25, (.ext (.tmp 21) 1), none⟩,
 ⟨some 4, (.alloc 30 [(.int .i64 0), (.int .i64 0), (.int .i64 0), (.int .i64 0), (.bool false)]), none⟩,
 ⟨none, (.store 5 (.tmp 4) (.tmp 24)), none⟩,
 ⟨some 5, (.mov (.tmp 25)), none⟩]) (.seq (.region [ 
 ⟨some 27, (.mov (.tmp 1)), none⟩,
 ⟨some 28, (.call (.func 12) [(.tmp 27), (.const (.int .i64 15))]), none⟩,
 ⟨some 26, (.mov (.tmp 28)), none⟩,
 ⟨some 29, (.ext (.tmp 26) 0), none⟩,
 ⟨some 30, (.ext (.tmp 26) 1), none⟩,
 ⟨some 6, (.alloc 30 [(.int .i64 0), (.int .i64 0), (.int .i64 0), (.int .i64 0), (.bool false)]), none⟩,
 ⟨none, (.store 5 (.tmp 6) (.tmp 29)), none⟩,
 ⟨some 7, (.mov (.tmp 30)), none⟩]) (.seq (.region [ 
 ⟨some 32, (.mov (.tmp 1)), none⟩,
 ⟨some 33, (.call (.func 12) [(.tmp 32), (.const (.int .i64 15))]), none⟩,
 ⟨some 31, (.mov (.tmp 33)), none⟩,
 ⟨some 34, (.ext (.tmp 31) 0), none⟩,
 ⟨some 35, (.ext (.tmp 31) 1), none⟩,
 ⟨some 8, (.alloc 30 [(.int .i64 0), (.int .i64 0), (.int .i64 0), (.int .i64 0), (.bool false)]), none⟩,
 ⟨none, (.store 5 (.tmp 8) (.tmp 34)), none⟩,
 ⟨some 9, (.mov (.tmp 35)), none⟩]) (.seq (.region [ 
 ⟨some 36, (.mov (.tmp 1)), none⟩,
 ⟨some 37, (.loadN 5 (.tmp 4)), none⟩,
 ⟨some 38, (.call (.func 13) [(.tmp 36), (.tmp 37)]), none⟩,
 ⟨some 10, (.mov (.tmp 38)), none⟩]) (.seq (.region [ 
 ⟨some 39, (.mov (.tmp 1)), none⟩,
 ⟨some 40, (.call (.func 16) [(.tmp 39)]), none⟩,
 ⟨some 11, (.mov (.tmp 40)), none⟩]) (.seq (.region [ 
 ⟨some 41, (.mov (.tmp 3)), none⟩,
 ⟨some 42, (.bin .eql (.tmp 41) (.const (.int .i64 0))), none⟩,
 ⟨some 43, (.mov (.tmp 42)), none⟩,
 ⟨some 44, (.mov (.tmp 5)), (some (43, true))⟩,
 ⟨some 45, (.bin .eql (.tmp 44) (.const (.int .i64 0))), (some (43, true))⟩,
 ⟨some 46, (.pick (.tmp 43) (.tmp 45) (.const (.bool false))), none⟩,
 ⟨some 47, (.mov (.tmp 46)), none⟩,
 ⟨some 48, (.mov (.tmp 7)), (some (47, true))⟩,
 ⟨some 49, (.bin .eql (.tmp 48) (.const (.int .i64 0))), (some (47, true))⟩,
 ⟨some 50, (.pick (.tmp 47) (.tmp 49) (.const (.bool false))), none⟩,
 ⟨some 51, (.mov (.tmp 50)), none⟩,
 ⟨some 52, (.mov (.tmp 9)), (some (51, true))⟩,
 ⟨some 53, (.bin .eql (.tmp 52) (.const (.int .i64 2))), (some (51, true))⟩,
 ⟨some 54, (.pick (.tmp 51) (.tmp 53) (.const (.bool false))), none⟩,
 ⟨some 55, (.mov (.tmp 54)), none⟩,
 ⟨some 56, (.faddr 4 (.tmp 2)), (some (55, true))⟩,
 ⟨some 57, (.load1 (.tmp 56)), (some (55, true))⟩,
 ⟨some 58, (.pick (.tmp 55) (.tmp 57) (.const (.bool false))), none⟩,
 ⟨some 59, (.mov (.tmp 58)), none⟩,
 ⟨some 60, (.faddr 0 (.tmp 2)), (some (59, true))⟩,
 ⟨some 61, (.load1 (.tmp 60)), (some (59, true))⟩,
 ⟨some 62, (.bin .eql (.tmp 61) (.const (.int .i64 0))), (some (59, true))⟩,
 ⟨some 63, (.pick (.tmp 59) (.tmp 62) (.const (.bool false))), none⟩,
 ⟨some 64, (.mov (.tmp 63)), none⟩,
 ⟨some 65, (.loadN 5 (.tmp 4)), (some (64, true))⟩,
 ⟨some 66, (.build [(.int .i64 0), (.int .i64 0), (.int .i64 0), (.int .i64 0), (.bool false)] [(1, (1, (.const (.int .i64 1))))]), (some (64, true))⟩,
 ⟨some 67, (.seq false [(0, true), (1, true), (2, true), (3, true), (4, false)] (.tmp 65) (.tmp 66)), (some (64, true))⟩,
 ⟨some 68, (.pick (.tmp 64) (.tmp 67) (.const (.bool false))), none⟩,
 ⟨some 69, (.mov (.tmp 68)), none⟩,
 ⟨some 70, (.loadN 5 (.tmp 6)), (some (69, true))⟩,
 ⟨some 71, (.build [(.int .i64 0), (.int .i64 0), (.int .i64 0), (.int .i64 0), (.bool false)] [(0, (1, (.const (.int .i64 1)))), (2, (1, (.const (.int .i64 (-1))))), (3, (1, (.const (.int .i64 1))))]), (some (69, true))⟩,
 ⟨some 72, (.seq false [(0, true), (1, true), (2, true), (3, true), (4, false)] (.tmp 70) (.tmp 71)), (some (69, true))⟩,
 ⟨some 73, (.pick (.tmp 69) (.tmp 72) (.const (.bool false))), none⟩,
 ⟨some 74, (.mov (.tmp 73)), none⟩,
 ⟨some 75, (.mov (.tmp 10)), (some (74, true))⟩,
 ⟨some 76, (.pick (.tmp 74) (.tmp 75) (.const (.bool false))), none⟩,
 ⟨some 77, (.mov (.tmp 76)), none⟩,
 ⟨some 78, (.mov (.tmp 11)), (some (77, true))⟩,
 ⟨some 79, (.bslice 45 [(ub 0#64), (ub 0#64)] 2 [(0, (1, (.const (ub 33554433#64)))), (1, (1, (.const (ub 0#64))))]), (some (77, true))⟩,
 ⟨some 80, (.call (.func 32) [(.tmp 78), (.tmp 79)]), (some (77, true))⟩,
 ⟨some 81, (.pick (.tmp 77) (.tmp 80) (.const (.bool false))), none⟩,
 ⟨some 82, (.mov (.tmp 81)), none⟩,
 ⟨some 83, (.mov (.tmp 1)), (some (82, true))⟩,
 ⟨some 84, (.loadN 5 (.tmp 2)), (some (82, true))⟩,
 ⟨some 85, (.call (.func 24) [(.tmp 83), (.tmp 84)]), (some (82, true))⟩,
 ⟨some 86, (.pick (.tmp 82) (.tmp 85) (.const (.bool false))), none⟩,
 ⟨some 87, (.mov (.tmp 86)), none⟩,
 ⟨some 88, (.mov (.tmp 1)), (some (87, true))⟩,
 ⟨some 89, (.call (.func 35) [(.tmp 88)]), (some (87, true))⟩,
 ⟨some 90, (.len (.tmp 89)), (some (87, true))⟩,
 ⟨some 91, (.bin .eql (.tmp 90) (.const (.int .i64 0))), (some (87, true))⟩,
 ⟨some 92, (.pick (.tmp 87) (.tmp 91) (.const (.bool false))), none⟩,
 ⟨some 0, (.mov (.tmp 92)), none⟩]) .ret)))))))))), [(.tmp 0)]⟩
theorem ir9_ok : compFun Tryd.prog Tryd.f9 = some ir9 := by kernel_rfl

/- lockfast.index.New -/
def ir10 : IFun := ⟨34, (.seq (.region [ 
 ⟨some 2, (.mov (.const (.pointer none))), none⟩]) (.seq (.region [ 
 ⟨some 8, (.build [(.slice none 0 0)] []), none⟩,
 ⟨some 9, (.box 73 (.tmp 8)), none⟩,
 ⟨some 3, (.mov (.tmp 9)), none⟩]) (.seq (.region [ 
 ⟨some 11, (.mov (.tmp 0)), none⟩,
 ⟨some 12, (.call (.func 17) [(.tmp 11)]), none⟩,
 ⟨some 10, (.mov (.tmp 12)), none⟩,
 ⟨some 13, (.ext (.tmp 10) 0), none⟩,
 ⟨some 14, (.ext (.tmp 10) 1), none⟩,
 ⟨some 4, (.mov (.tmp 13)), none⟩,
 ⟨some 5, (.mov (.tmp 14)), none⟩]) (.seq (.seq (.region [ 
 ⟨some 15, (.mov (.tmp 4)), none⟩,
 ⟨some 16, (.len (.tmp 15)), none⟩,
 ⟨some 17, (.mov (.const (.int .i64 0))), none⟩]) (.block 0 (.loop (.seq (.region [ 
 ⟨some 18, (.bin .lss (.tmp 17) (.tmp 16)), none⟩]) (.seq (.cond (.tmp 18) .skip (.exit 0)) (.seq (.block 1 (.seq (.region [ 
 ⟨some 19, (.iaddr 5 (.tmp 15) (.tmp 17)), none⟩,
 ⟨some 20, (.loadN 5 (.tmp 19)), none⟩,
 ⟨some 7, (.alloc 47 [(.int .i64 0), (.int .i64 0), (.int .i64 0), (.int .i64 0), (ub 0#64)]), none⟩,
 ⟨none, (.store 5 (.tmp 7) (.tmp 20)), none⟩]) (.draw [ 
 ⟨some 21, (.mov (.tmp 3)), none⟩,
 ⟨some 22, (.mov (.tmp 3)), none⟩,
 ⟨some 23, (.nilck (.tmp 22)), none⟩,
 ⟨some 24, (.faddr 0 (.tmp 23)), none⟩,
 ⟨some 25, (.load1 (.tmp 24)), none⟩,
 ⟨some 26, (.loadN 5 (.tmp 7)), none⟩,
 ⟨some 27, (.build [(.int .i64 0), (.int .i64 0), (.int .i64 0), (.int .i64 0), (ub 0#64), (ub 0#64)] [(0, (5, (.tmp 26)))]), none⟩,
 ⟨some 28, (.bslice 75 [(.int .i64 0), (.int .i64 0), (.int .i64 0), (.int .i64 0), (ub 0#64), (ub 0#64)] 1 [(0, (6, (.tmp 27)))]), none⟩,
 ⟨some 29, (.app 75 6 48 (.tmp 25) (.tmp 28)), none⟩,
 ⟨some 30, (.nilck (.tmp 21)), none⟩,
 ⟨some 31, (.faddr 0 (.tmp 30)), none⟩,
 ⟨none, (.store 1 (.tmp 31) (.tmp 29)), none⟩] [(7, 4)]))) (.region [ 
 ⟨some 32, (.bin .add (.tmp 17) (.const (.int .i64 1))), none⟩,
 ⟨some 17, (.mov (.tmp 32)), none⟩]))))))) (.seq (.region [ 
 ⟨some 33, (.mov (.tmp 3)), none⟩,
 ⟨some 2, (.mov (.tmp 33)), none⟩]) .ret))))), [(.tmp 2)]⟩
theorem ir10_ok : compFun Tryd.prog Tryd.f10 = some ir10 := by kernel_rfl

/- lockfast.lockfastref11.Made -/
def ir11 : IFun := ⟨110, (.seq (.region [ 
 ⟨some 4, (.mov (.const (.slice none 0 0))), none⟩]) (.seq (.region [ 
 ⟨some 5, (.mov (.const (.slice none 0 0))), none⟩]) (.seq (.seq (.region [ 
 ⟨some 6, (.mov (.const (.int .i64 0))), none⟩]) (.block 0 (.loop (.seq (.seq (.region [ 
 ⟨some 12, (.mov (.tmp 6)), none⟩,
 ⟨some 13, (.mov (.tmp 0)), none⟩,
 ⟨some 14, (.len (.tmp 13)), none⟩,
 ⟨some 15, (.bin .lss (.tmp 12) (.tmp 14)), none⟩,
 ⟨some 16, (.mov (.tmp 15)), none⟩,
 ⟨some 17, (.mov (.tmp 5)), (some (16, true))⟩,
 ⟨some 18, (.len (.tmp 17)), (some (16, true))⟩,
 ⟨some 19, (.mov (.tmp 1)), (some (16, true))⟩,
 ⟨some 20, (.bin .lss (.tmp 18) (.tmp 19)), (some (16, true))⟩,
 ⟨some 21, (.pick (.tmp 16) (.tmp 20) (.const (.bool false))), none⟩]) (.cond (.tmp 21) .skip (.exit 0))) (.seq (.block 1 (.seq (.region [ 
 ⟨some 24, (.mov (.tmp 0)), none⟩,
 ⟨some 25, (.mov (.tmp 6)), none⟩,
 ⟨some 26, (.iaddr 1 (.tmp 24) (.tmp 25)), none⟩,
 ⟨some 27, (.load1 (.tmp 26)), none⟩,
 ⟨some 28, (.conv .i64 (.tmp 27)), none⟩,
 ⟨some 7, (.mov (.tmp 28)), none⟩]) (.seq (.region [ 
 ⟨some 29, (.build [(.int .i64 0), (.int .i64 0), (.int .i64 0), (.int .i64 0), (ub 0#64)] []), none⟩,
 ⟨some 8, (.alloc 47 [(.int .i64 0), (.int .i64 0), (.int .i64 0), (.int .i64 0), (ub 0#64)]), none⟩,
 ⟨none, (.store 5 (.tmp 8) (.tmp 29)), none⟩]) (.seq (.seq (.region [ 
 ⟨some 30, (.mov (.tmp 7)), none⟩,
 ⟨some 31, (.bin .rem (.tmp 30) (.const (.int .i64 6))), none⟩]) (.block 2 (.seq (.seq (.region [ 
 ⟨some 33, (.bin .eql (.tmp 31) (.const (.int .i64 1))), none⟩,
 ⟨some 32, (.mov (.tmp 33)), none⟩]) (.cond (.tmp 32) .skip (.region [ 
 ⟨some 34, (.bin .eql (.tmp 31) (.const (.int .i64 2))), none⟩,
 ⟨some 32, (.mov (.tmp 34)), none⟩]))) (.cond (.tmp 32) (.seq (.region [ 
 ⟨some 35, (.mov (.tmp 7)), none⟩,
 ⟨some 36, (.bin .quo (.tmp 35) (.const (.int .i64 8))), none⟩,
 ⟨some 37, (.bin .rem (.tmp 36) (.const (.int .i64 3))), none⟩,
 ⟨some 38, (.mov (.tmp 7)), none⟩,
 ⟨some 39, (.bin .quo (.tmp 38) (.const (.int .i64 32))), none⟩,
 ⟨some 40, (.conv .u64 (.tmp 39)), none⟩,
 ⟨some 41, (.build [(.int .i64 0), (.int .i64 0), (.int .i64 0), (.int .i64 0), (ub 0#64)] [(0, (1, (.const (.int .i64 1)))), (1, (1, (.tmp 37))), (4, (1, (.tmp 40)))]), none⟩,
 ⟨none, (.store 5 (.tmp 8) (.tmp 41)), none⟩]) (.draw [ 
 ⟨some 42, (.faddr 4 (.tmp 8)), none⟩,
 ⟨some 43, (.load1 (.tmp 42)), none⟩,
 ⟨some 44, (.faddr 1 (.tmp 8)), none⟩,
 ⟨some 45, (.load1 (.tmp 44)), none⟩,
 ⟨some 46, (.call (.func 20) [(.tmp 45)]), none⟩,
 ⟨some 47, (.bin .shl (.const (ub 1#64)) (.tmp 46)), none⟩,
 ⟨some 48, (.bin .rem (.tmp 43) (.tmp 47)), none⟩,
 ⟨some 49, (.faddr 4 (.tmp 8)), none⟩,
 ⟨none, (.store 1 (.tmp 49) (.tmp 48)), none⟩] [(4, 1)])) (.seq (.region [ 
 ⟨some 51, (.bin .eql (.tmp 31) (.const (.int .i64 3))), none⟩,
 ⟨some 50, (.mov (.tmp 51)), none⟩]) (.cond (.tmp 50) (.region [ 
 ⟨some 52, (.mov (.tmp 7)), none⟩,
 ⟨some 53, (.bin .quo (.tmp 52) (.const (.int .i64 8))), none⟩,
 ⟨some 54, (.bin .rem (.tmp 53) (.const (.int .i64 4))), none⟩,
 ⟨some 55, (.bin .add (.const (.int .i64 1)) (.tmp 54)), none⟩,
 ⟨some 56, (.build [(.int .i64 0), (.int .i64 0), (.int .i64 0), (.int .i64 0), (ub 0#64)] [(0, (1, (.const (.int .i64 2)))), (3, (1, (.tmp 55)))]), none⟩,
 ⟨none, (.store 5 (.tmp 8) (.tmp 56)), none⟩]) (.seq (.region [ 
 ⟨some 58, (.bin .eql (.tmp 31) (.const (.int .i64 4))), none⟩,
 ⟨some 57, (.mov (.tmp 58)), none⟩]) (.cond (.tmp 57) (.region [ 
 ⟨some 59, (.mov (.tmp 7)), none⟩,
 ⟨some 60, (.bin .quo (.tmp 59) (.const (.int .i64 8))), none⟩,
 ⟨some 61, (.bin .rem (.tmp 60) (.const (.int .i64 3))), none⟩,
 ⟨some 62, (.build [(.int .i64 0), (.int .i64 0), (.int .i64 0), (.int .i64 0), (ub 0#64)] [(0, (1, (.const (.int .i64 1)))), (1, (1, (.tmp 61)))]), none⟩,
 ⟨none, (.store 5 (.tmp 8) (.tmp 62)), none⟩]) (.seq (.region [ 
 ⟨some 64, (.bin .eql (.tmp 31) (.const (.int .i64 5))), none⟩,
 ⟨some 63, (.mov (.tmp 64)), none⟩]) (.cond (.tmp 63) (.region [ 
 ⟨some 65, (.mov (.tmp 7)), none⟩,
 ⟨some 66, (.bin .quo (.tmp 65) (.const (.int .i64 8))), none⟩,
 ⟨some 67, (.bin .rem (.tmp 66) (.const (.int .i64 3))), none⟩,
 ⟨some 68, (.mov (.tmp 7)), none⟩,
 ⟨some 69, (.bin .quo (.tmp 68) (.const (.int .i64 32))), none⟩,
 ⟨some 70, (.bin .rem (.tmp 69) (.const (.int .i64 8))), none⟩,
 ⟨some 71, (.build [(.int .i64 0), (.int .i64 0), (.int .i64 0), (.int .i64 0), (ub 0#64)] [(0, (1, (.const (.int .i64 4)))), (2, (1, (.tmp 67))), (3, (1, (.tmp 70)))]), none⟩,
 ⟨none, (.store 5 (.tmp 8) (.tmp 71)), none⟩]) .skip)))))))))) (.seq (.seq (.region [ 
 ⟨some 72, (.mov (.tmp 5)), none⟩,
 ⟨some 73, (.len (.tmp 72)), none⟩,
 ⟨some 74, (.faddr 3 (.tmp 8)), none⟩,
 ⟨some 75, (.load1 (.tmp 74)), none⟩,
 ⟨some 76, (.minmax true (.const (.int .i64 1)) (.tmp 75)), none⟩,
 ⟨some 77, (.bin .add (.tmp 73) (.tmp 76)), none⟩,
 ⟨some 78, (.mov (.tmp 1)), none⟩,
 ⟨some 79, (.bin .gtr (.tmp 77) (.tmp 78)), none⟩,
 ⟨some 80, (.mov (.tmp 79)), none⟩,
 ⟨some 81, (.faddr 0 (.tmp 8)), (some (80, true))⟩,
 ⟨some 82, (.load1 (.tmp 81)), (some (80, true))⟩,
 ⟨some 83, (.bin .eql (.tmp 82) (.const (.int .i64 2))), (some (80, true))⟩,
 ⟨some 84, (.pick (.tmp 80) (.tmp 83) (.const (.bool false))), none⟩]) (.cond (.tmp 84) (.region [ 
 ⟨some 85, (.build [(.int .i64 0), (.int .i64 0), (.int .i64 0), (.int .i64 0), (ub 0#64)] []), none⟩,
 ⟨none, (.store 5 (.tmp 8) (.tmp 85)), none⟩]) .skip)) (.seq (.region [ 
 ⟨some 87, (.loadN 5 (.tmp 8)), none⟩,
 ⟨some 88, (.call (.func 41) [(.tmp 87)]), none⟩,
 ⟨some 86, (.mov (.tmp 88)), none⟩,
 ⟨some 89, (.ext (.tmp 86) 0), none⟩,
 ⟨some 90, (.ext (.tmp 86) 1), none⟩,
 ⟨some 9, (.mov (.tmp 89)), none⟩,
 ⟨some 10, (.mov (.tmp 90)), none⟩]) (.seq (.region [ 
 ⟨some 91, (.mov (.tmp 5)), none⟩,
 ⟨some 92, (.mov (.tmp 9)), none⟩,
 ⟨some 93, (.bslice 45 [(ub 0#64)] 1 [(0, (1, (.tmp 92)))]), none⟩,
 ⟨some 94, (.app 45 1 8 (.tmp 91) (.tmp 93)), none⟩,
 ⟨some 5, (.mov (.tmp 94)), none⟩]) (.seq (.region [ 
 ⟨some 11, (.mov (.const (.int .i64 1))), none⟩]) (.block 3 (.loop (.seq (.seq (.region [ 
 ⟨some 95, (.faddr 0 (.tmp 8)), none⟩,
 ⟨some 96, (.load1 (.tmp 95)), none⟩,
 ⟨some 97, (.bin .eql (.tmp 96) (.const (.int .i64 2))), none⟩,
 ⟨some 98, (.mov (.tmp 97)), none⟩,
 ⟨some 99, (.mov (.tmp 11)), (some (98, true))⟩,
 ⟨some 100, (.faddr 3 (.tmp 8)), (some (98, true))⟩,
 ⟨some 101, (.load1 (.tmp 100)), (some (98, true))⟩,
 ⟨some 102, (.bin .lss (.tmp 99) (.tmp 101)), (some (98, true))⟩,
 ⟨some 103, (.pick (.tmp 98) (.tmp 102) (.const (.bool false))), none⟩]) (.cond (.tmp 103) .skip (.exit 3))) (.seq (.block 4 (.region [ 
 ⟨some 106, (.mov (.tmp 5)), none⟩,
 ⟨some 107, (.bslice 45 [(ub 0#64)] 1 [(0, (1, (.const (ub 3#64))))]), none⟩,
 ⟨some 108, (.app 45 1 8 (.tmp 106) (.tmp 107)), none⟩,
 ⟨some 5, (.mov (.tmp 108)), none⟩])) (.region [ 
 ⟨some 104, (.mov (.tmp 11)), none⟩,
 ⟨some 105, (.bin .add (.tmp 104) (.const (.int .i64 1))), none⟩,
 ⟨some 11, (.mov (.tmp 105)), none⟩]))))))))))))) (.region [ 
 ⟨some 22, (.mov (.tmp 6)), none⟩,
 ⟨some 23, (.bin .add (.tmp 22) (.const (.int .i64 1))), none⟩,
 ⟨some 6, (.mov (.tmp 23)), none⟩])))))) (.seq (.region [ 
 ⟨some 109, (.mov (.tmp 5)), none⟩,
 ⟨some 4, (.mov (.tmp 109)), none⟩]) .ret)))), [(.tmp 4)]⟩
theorem ir11_ok : compFun Tryd.prog Tryd.f11 = some ir11 := by kernel_rfl

/- (*lockfast.index.Index).Take -/
def ir12 : IFun := ⟨28, (.seq (.region [ 
 ⟨some 4, (.alloc 30 [(.int .i64 0), (.int .i64 0), (.int .i64 0), (.int .i64 0), (.bool false)]), none⟩,
 ⟨some 5, (.mov (.const (.int .i64 0))), none⟩]) (.seq (.seq (.region [ 
 ⟨some 7, (.mov (.tmp 1)), none⟩,
 ⟨some 8, (.call (.func 42) [(.tmp 7)]), none⟩,
 ⟨some 6, (.mov (.tmp 8)), none⟩]) (.block 0 (.seq (.region [ 
 ⟨some 10, (.mov (.tmp 1)), none⟩,
 ⟨some 11, (.call (.func 43) [(.tmp 10)]), none⟩,
 ⟨some 12, (.un .not (.tmp 11)), none⟩,
 ⟨some 9, (.mov (.tmp 12)), none⟩]) (.cond (.tmp 9) (.seq (.region [ 
 ⟨some 13, (.build [(.int .i64 0), (.int .i64 0), (.int .i64 0), (.int .i64 0), (.bool false)] []), none⟩,
 ⟨none, (.store 5 (.tmp 4) (.tmp 13)), none⟩,
 ⟨some 5, (.mov (.const (.int .i64 1))), none⟩]) .ret) (.seq (.region [ 
 ⟨some 15, (.mov (.tmp 6)), none⟩,
 ⟨some 16, (.bin .geq (.tmp 15) (.const (.int .i64 0))), none⟩,
 ⟨some 14, (.mov (.tmp 16)), none⟩]) (.cond (.tmp 14) (.seq (.region [ 
 ⟨some 17, (.mov (.tmp 0)), none⟩,
 ⟨some 18, (.mov (.tmp 6)), none⟩,
 ⟨some 19, (.call (.func 44) [(.tmp 17), (.tmp 18)]), none⟩,
 ⟨some 20, (.ext (.tmp 19) 0), none⟩,
 ⟨some 21, (.ext (.tmp 19) 1), none⟩,
 ⟨none, (.store 5 (.tmp 4) (.tmp 20)), none⟩,
 ⟨some 5, (.mov (.tmp 21)), none⟩]) .ret) .skip)))))) (.seq (.region [ 
 ⟨some 22, (.mov (.tmp 0)), none⟩,
 ⟨some 23, (.mov (.tmp 1)), none⟩,
 ⟨some 24, (.call (.func 46) [(.tmp 23)]), none⟩,
 ⟨some 25, (.call (.func 45) [(.tmp 22), (.tmp 24)]), none⟩,
 ⟨some 26, (.ext (.tmp 25) 0), none⟩,
 ⟨some 27, (.ext (.tmp 25) 1), none⟩,
 ⟨none, (.store 5 (.tmp 4) (.tmp 26)), none⟩,
 ⟨some 5, (.mov (.tmp 27)), none⟩]) .ret))), [(.cellN 5 4), (.tmp 5)]⟩
theorem ir12_ok : compFun Tryd.prog Tryd.f12 = some ir12 := by kernel_rfl

/- (*lockfast.index.Index).Keep -/
def ir13 : IFun := ⟨48, (.seq (.region [ 
 ⟨some 3, (.box 30 (.tmp 1)), none⟩,
 ⟨some 4, (.mov (.const (.bool false))), none⟩]) (.seq (.region [ 
 ⟨some 8, (.mov (.tmp 0)), none⟩,
 ⟨some 9, (.loadN 5 (.tmp 3)), none⟩,
 ⟨some 10, (.call (.func 47) [(.tmp 8), (.tmp 9)]), none⟩,
 ⟨some 7, (.mov (.tmp 10)), none⟩,
 ⟨some 11, (.ext (.tmp 7) 0), none⟩,
 ⟨some 12, (.ext (.tmp 7) 1), none⟩,
 ⟨some 5, (.mov (.tmp 11)), none⟩,
 ⟨some 6, (.mov (.tmp 12)), none⟩]) (.seq (.seq (.region [ 
 ⟨some 13, (.mov (.tmp 5)), none⟩,
 ⟨some 14, (.neq false (.tmp 13) (.const (.pointer none))), none⟩,
 ⟨some 15, (.mov (.tmp 14)), none⟩,
 ⟨some 16, (.mov (.tmp 5)), (some (15, false))⟩,
 ⟨some 17, (.nilck (.tmp 16)), (some (15, false))⟩,
 ⟨some 18, (.faddr 5 (.tmp 17)), (some (15, false))⟩,
 ⟨some 19, (.load1 (.tmp 18)), (some (15, false))⟩,
 ⟨some 20, (.mov (.tmp 6)), (some (15, false))⟩,
 ⟨some 21, (.bin .and (.tmp 19) (.tmp 20)), (some (15, false))⟩,
 ⟨some 22, (.bin .eql (.tmp 21) (.const (ub 0#64))), (some (15, false))⟩,
 ⟨some 23, (.pick (.tmp 15) (.const (.bool true)) (.tmp 22)), none⟩]) (.cond (.tmp 23) (.seq (.region [ 
 ⟨some 4, (.mov (.const (.bool false))), none⟩]) .ret) .skip)) (.seq (.region [ 
 ⟨some 24, (.mov (.tmp 5)), none⟩,
 ⟨some 25, (.nilck (.tmp 24)), none⟩,
 ⟨some 26, (.faddr 5 (.tmp 25)), none⟩,
 ⟨some 27, (.load1 (.tmp 26)), none⟩,
 ⟨some 28, (.mov (.tmp 6)), none⟩,
 ⟨some 29, (.bin .andNot (.tmp 27) (.tmp 28)), none⟩,
 ⟨some 30, (.nilck (.tmp 24)), none⟩,
 ⟨some 31, (.faddr 5 (.tmp 30)), none⟩,
 ⟨none, (.store 1 (.tmp 31) (.tmp 29)), none⟩]) (.seq (.seq (.region [ 
 ⟨some 32, (.mov (.tmp 5)), none⟩,
 ⟨some 33, (.nilck (.tmp 32)), none⟩,
 ⟨some 34, (.faddr 0 (.tmp 33)), none⟩,
 ⟨some 35, (.faddr 0 (.tmp 34)), none⟩,
 ⟨some 36, (.load1 (.tmp 35)), none⟩,
 ⟨some 37, (.bin .eql (.tmp 36) (.const (.int .i64 1))), none⟩]) (.cond (.tmp 37) (.region [ 
 ⟨some 38, (.mov (.tmp 5)), none⟩,
 ⟨some 39, (.nilck (.tmp 38)), none⟩,
 ⟨some 40, (.faddr 0 (.tmp 39)), none⟩,
 ⟨some 41, (.faddr 4 (.tmp 40)), none⟩,
 ⟨some 42, (.load1 (.tmp 41)), none⟩,
 ⟨some 43, (.mov (.tmp 6)), none⟩,
 ⟨some 44, (.bin .or (.tmp 42) (.tmp 43)), none⟩,
 ⟨some 45, (.nilck (.tmp 38)), none⟩,
 ⟨some 46, (.faddr 0 (.tmp 45)), none⟩,
 ⟨some 47, (.faddr 4 (.tmp 46)), none⟩,
 ⟨none, (.store 1 (.tmp 47) (.tmp 44)), none⟩]) .skip)) (.seq (.region [ 
 ⟨some 4, (.mov (.const (.bool true))), none⟩]) .ret)))))), [(.tmp 4)]⟩
theorem ir13_ok : compFun Tryd.prog Tryd.f13 = some ir13 := by kernel_rfl

/- (*lockfast.index.Index).Free -/
def ir14 : IFun := ⟨61, (.seq (.region [ 
 ⟨some 3, (.box 30 (.tmp 1)), none⟩,
 ⟨some 4, (.mov (.const (.bool false))), none⟩]) (.seq (.region [ 
 ⟨some 8, (.mov (.tmp 0)), none⟩,
 ⟨some 9, (.loadN 5 (.tmp 3)), none⟩,
 ⟨some 10, (.call (.func 47) [(.tmp 8), (.tmp 9)]), none⟩,
 ⟨some 7, (.mov (.tmp 10)), none⟩,
 ⟨some 11, (.ext (.tmp 7) 0), none⟩,
 ⟨some 12, (.ext (.tmp 7) 1), none⟩,
 ⟨some 5, (.mov (.tmp 11)), none⟩,
 ⟨some 6, (.mov (.tmp 12)), none⟩]) (.seq (.seq (.region [ 
 ⟨some 13, (.mov (.tmp 5)), none⟩,
 ⟨some 14, (.neq false (.tmp 13) (.const (.pointer none))), none⟩,
 ⟨some 15, (.mov (.tmp 14)), none⟩,
 ⟨some 16, (.mov (.tmp 5)), (some (15, false))⟩,
 ⟨some 17, (.nilck (.tmp 16)), (some (15, false))⟩,
 ⟨some 18, (.faddr 0 (.tmp 17)), (some (15, false))⟩,
 ⟨some 19, (.faddr 0 (.tmp 18)), (some (15, false))⟩,
 ⟨some 20, (.load1 (.tmp 19)), (some (15, false))⟩,
 ⟨some 21, (.bin .eql (.tmp 20) (.const (.int .i64 1))), (some (15, false))⟩,
 ⟨some 22, (.mov (.tmp 21)), (some (15, false))⟩,
 ⟨some 23, (.mov (.tmp 5)), (some (22, true))⟩,
 ⟨some 24, (.nilck (.tmp 23)), (some (22, true))⟩,
 ⟨some 25, (.faddr 0 (.tmp 24)), (some (22, true))⟩,
 ⟨some 26, (.faddr 4 (.tmp 25)), (some (22, true))⟩,
 ⟨some 27, (.load1 (.tmp 26)), (some (22, true))⟩,
 ⟨some 28, (.mov (.tmp 6)), (some (22, true))⟩,
 ⟨some 29, (.bin .and (.tmp 27) (.tmp 28)), (some (22, true))⟩,
 ⟨some 30, (.bin .eql (.tmp 29) (.const (ub 0#64))), (some (22, true))⟩,
 ⟨some 31, (.pick (.tmp 22) (.tmp 30) (.const (.bool false))), (some (15, false))⟩,
 ⟨some 32, (.pick (.tmp 15) (.const (.bool true)) (.tmp 31)), none⟩,
 ⟨some 33, (.mov (.tmp 32)), none⟩,
 ⟨some 34, (.mov (.tmp 5)), (some (33, false))⟩,
 ⟨some 35, (.nilck (.tmp 34)), (some (33, false))⟩,
 ⟨some 36, (.faddr 0 (.tmp 35)), (some (33, false))⟩,
 ⟨some 37, (.faddr 0 (.tmp 36)), (some (33, false))⟩,
 ⟨some 38, (.load1 (.tmp 37)), (some (33, false))⟩,
 ⟨some 39, (.bin .eql (.tmp 38) (.const (.int .i64 2))), (some (33, false))⟩,
 ⟨some 40, (.mov (.tmp 39)), (some (33, false))⟩,
 ⟨some 41, (.mov (.tmp 5)), (some (40, true))⟩,
 ⟨some 42, (.nilck (.tmp 41)), (some (40, true))⟩,
 ⟨some 43, (.faddr 5 (.tmp 42)), (some (40, true))⟩,
 ⟨some 44, (.load1 (.tmp 43)), (some (40, true))⟩,
 ⟨some 45, (.bin .neq (.tmp 44) (.const (ub 0#64))), (some (40, true))⟩,
 ⟨some 46, (.pick (.tmp 40) (.tmp 45) (.const (.bool false))), (some (33, false))⟩,
 ⟨some 47, (.pick (.tmp 33) (.const (.bool true)) (.tmp 46)), none⟩]) (.cond (.tmp 47) (.seq (.region [ 
 ⟨some 4, (.mov (.const (.bool false))), none⟩]) .ret) .skip)) (.seq (.region [ 
 ⟨some 48, (.mov (.tmp 5)), none⟩,
 ⟨some 49, (.nilck (.tmp 48)), none⟩,
 ⟨some 50, (.faddr 0 (.tmp 49)), none⟩,
 ⟨some 51, (.faddr 4 (.tmp 50)), none⟩,
 ⟨some 52, (.load1 (.tmp 51)), none⟩,
 ⟨some 53, (.mov (.tmp 6)), none⟩,
 ⟨some 54, (.bin .andNot (.tmp 52) (.tmp 53)), none⟩,
 ⟨some 55, (.nilck (.tmp 48)), none⟩,
 ⟨some 56, (.faddr 0 (.tmp 55)), none⟩,
 ⟨some 57, (.faddr 4 (.tmp 56)), none⟩,
 ⟨none, (.store 1 (.tmp 57) (.tmp 54)), none⟩]) (.seq (.region [ 
 ⟨some 58, (.mov (.tmp 0)), none⟩,
 ⟨some 59, (.loadN 5 (.tmp 3)), none⟩,
 ⟨some 60, (.call (.func 48) [(.tmp 58), (.tmp 59)]), none⟩]) (.seq (.region [ 
 ⟨some 4, (.mov (.const (.bool true))), none⟩]) .ret)))))), [(.tmp 4)]⟩
theorem ir14_ok : compFun Tryd.prog Tryd.f14 = some ir14 := by kernel_rfl

/- lockfast.tile.Rows -/
def ir15 : IFun := ⟨66, (.seq (.region [ 
 ⟨some 2, (.mov (.const (.slice none 0 0))), none⟩]) (.seq (.region [ 
 ⟨some 10, (.mov (.tmp 0)), none⟩,
 ⟨some 11, (.call (.func 17) [(.tmp 10)]), none⟩,
 ⟨some 9, (.mov (.tmp 11)), none⟩,
 ⟨some 12, (.ext (.tmp 9) 0), none⟩,
 ⟨some 13, (.ext (.tmp 9) 1), none⟩,
 ⟨some 3, (.mov (.tmp 12)), none⟩,
 ⟨some 4, (.mov (.tmp 13)), none⟩]) (.seq (.region [ 
 ⟨some 5, (.mov (.const (.slice none 0 0))), none⟩]) (.seq (.seq (.region [ 
 ⟨some 14, (.mov (.tmp 3)), none⟩,
 ⟨some 15, (.len (.tmp 14)), none⟩,
 ⟨some 16, (.mov (.const (.int .i64 0))), none⟩]) (.block 0 (.loop (.seq (.region [ 
 ⟨some 17, (.bin .lss (.tmp 16) (.tmp 15)), none⟩]) (.seq (.cond (.tmp 17) .skip (.exit 0)) (.seq (.block 1 (.seq (.region [ 
 ⟨some 18, (.mov (.tmp 16)), none⟩,
 ⟨some 19, (.iaddr 5 (.tmp 14) (.tmp 16)), none⟩,
 ⟨some 20, (.loadN 5 (.tmp 19)), none⟩,
 ⟨some 7, (.alloc 47 [(.int .i64 0), (.int .i64 0), (.int .i64 0), (.int .i64 0), (ub 0#64)]), none⟩,
 ⟨some 6, (.mov (.tmp 18)), none⟩,
 ⟨none, (.store 5 (.tmp 7) (.tmp 20)), none⟩]) (.seq (.region [ 
 ⟨some 21, (.mov (.tmp 5)), none⟩,
 ⟨some 22, (.len (.tmp 21)), none⟩,
 ⟨some 23, (.bin .sub (.tmp 22) (.const (.int .i64 1))), none⟩,
 ⟨some 8, (.mov (.tmp 23)), none⟩]) (.block 2 (.seq (.region [ 
 ⟨some 30, (.faddr 0 (.tmp 7)), none⟩,
 ⟨some 31, (.load1 (.tmp 30)), none⟩,
 ⟨some 32, (.bin .neq (.tmp 31) (.const (.int .i64 0))), none⟩,
 ⟨some 33, (.mov (.tmp 32)), none⟩,
 ⟨some 34, (.loadN 5 (.tmp 7)), (some (33, true))⟩,
 ⟨some 35, (.call (.func 49) [(.tmp 34)]), (some (33, true))⟩,
 ⟨some 36, (.un .not (.tmp 35)), (some (33, true))⟩,
 ⟨some 37, (.pick (.tmp 33) (.tmp 36) (.const (.bool false))), none⟩,
 ⟨some 29, (.mov (.tmp 37)), none⟩]) (.cond (.tmp 29) .skip (.seq (.draw [ 
 ⟨some 39, (.mov (.tmp 8)), none⟩,
 ⟨some 40, (.bin .geq (.tmp 39) (.const (.int .i64 0))), none⟩,
 ⟨some 41, (.mov (.tmp 40)), none⟩,
 ⟨some 42, (.mov (.tmp 5)), (some (41, true))⟩,
 ⟨some 43, (.mov (.tmp 8)), (some (41, true))⟩,
 ⟨some 44, (.iaddr 2 (.tmp 42) (.tmp 43)), (some (41, true))⟩,
 ⟨some 45, (.faddr 0 (.tmp 44)), (some (41, true))⟩,
 ⟨some 46, (.load1 (.tmp 45)), (some (41, true))⟩,
 ⟨some 47, (.mov (.tmp 5)), (some (41, true))⟩,
 ⟨some 48, (.mov (.tmp 8)), (some (41, true))⟩,
 ⟨some 49, (.iaddr 2 (.tmp 47) (.tmp 48)), (some (41, true))⟩,
 ⟨some 50, (.faddr 1 (.tmp 49)), (some (41, true))⟩,
 ⟨some 51, (.load1 (.tmp 50)), (some (41, true))⟩,
 ⟨some 52, (.bin .add (.tmp 46) (.tmp 51)), (some (41, true))⟩,
 ⟨some 53, (.mov (.tmp 6)), (some (41, true))⟩,
 ⟨some 54, (.bin .eql (.tmp 52) (.tmp 53)), (some (41, true))⟩,
 ⟨some 55, (.pick (.tmp 41) (.tmp 54) (.const (.bool false))), none⟩,
 ⟨some 38, (.mov (.tmp 55)), none⟩] []) (.cond (.tmp 38) (.region [ 
 ⟨some 56, (.mov (.tmp 5)), none⟩,
 ⟨some 57, (.mov (.tmp 8)), none⟩,
 ⟨some 58, (.iaddr 2 (.tmp 56) (.tmp 57)), none⟩,
 ⟨some 59, (.faddr 1 (.tmp 58)), none⟩,
 ⟨some 60, (.load1 (.tmp 59)), none⟩,
 ⟨some 61, (.bin .add (.tmp 60) (.const (.int .i64 1))), none⟩,
 ⟨some 62, (.iaddr 2 (.tmp 56) (.tmp 57)), none⟩,
 ⟨some 63, (.faddr 1 (.tmp 62)), none⟩,
 ⟨none, (.store 1 (.tmp 63) (.tmp 61)), none⟩]) (.region [ 
 ⟨some 24, (.mov (.tmp 5)), none⟩,
 ⟨some 25, (.mov (.tmp 6)), none⟩,
 ⟨some 26, (.build [(.int .i64 0), (.int .i64 0)] [(0, (1, (.tmp 25))), (1, (1, (.const (.int .i64 1))))]), none⟩,
 ⟨some 27, (.bslice 43 [(.int .i64 0), (.int .i64 0)] 1 [(0, (2, (.tmp 26)))]), none⟩,
 ⟨some 28, (.app 43 2 16 (.tmp 24) (.tmp 27)), none⟩,
 ⟨some 5, (.mov (.tmp 28)), none⟩]))))))))) (.region [ 
 ⟨some 64, (.bin .add (.tmp 16) (.const (.int .i64 1))), none⟩,
 ⟨some 16, (.mov (.tmp 64)), none⟩]))))))) (.seq (.region [ 
 ⟨some 65, (.mov (.tmp 5)), none⟩,
 ⟨some 2, (.mov (.tmp 65)), none⟩]) .ret))))), [(.tmp 2)]⟩
theorem ir15_ok : compFun Tryd.prog Tryd.f15 = some ir15 := by kernel_rfl

/- (*lockfast.index.Index).Table -/
def ir16 : IFun := ⟨48, (.seq (.region [ 
 ⟨some 2, (.mov (.const (.slice none 0 0))), none⟩]) (.seq (.region [ 
 ⟨some 3, (.mov (.const (.slice none 0 0))), none⟩]) (.seq (.region [ 
 ⟨some 4, (.mov (.const (.int .i64 0))), none⟩]) (.seq (.seq (.region [ 
 ⟨some 9, (.mov (.tmp 0)), none⟩,
 ⟨some 10, (.nilck (.tmp 9)), none⟩,
 ⟨some 11, (.faddr 0 (.tmp 10)), none⟩,
 ⟨some 12, (.load1 (.tmp 11)), none⟩,
 ⟨some 13, (.len (.tmp 12)), none⟩,
 ⟨some 14, (.mov (.const (.int .i64 0))), none⟩]) (.block 0 (.loop (.seq (.region [ 
 ⟨some 15, (.bin .lss (.tmp 14) (.tmp 13)), none⟩]) (.seq (.cond (.tmp 15) .skip (.exit 0)) (.seq (.block 1 (.seq (.region [ 
 ⟨some 16, (.iaddr 6 (.tmp 12) (.tmp 14)), none⟩,
 ⟨some 17, (.loadN 6 (.tmp 16)), none⟩,
 ⟨some 6, (.alloc 75 [(.int .i64 0), (.int .i64 0), (.int .i64 0), (.int .i64 0), (ub 0#64), (ub 0#64)]), none⟩,
 ⟨none, (.store 6 (.tmp 6) (.tmp 17)), none⟩]) (.seq (.seq (.region [ 
 ⟨some 18, (.faddr 0 (.tmp 6)), none⟩,
 ⟨some 19, (.faddr 0 (.tmp 18)), none⟩,
 ⟨some 20, (.load1 (.tmp 19)), none⟩,
 ⟨some 21, (.bin .eql (.tmp 20) (.const (.int .i64 2))), none⟩,
 ⟨some 22, (.mov (.tmp 21)), none⟩,
 ⟨some 23, (.faddr 5 (.tmp 6)), (some (22, true))⟩,
 ⟨some 24, (.load1 (.tmp 23)), (some (22, true))⟩,
 ⟨some 25, (.bin .neq (.tmp 24) (.const (ub 0#64))), (some (22, true))⟩,
 ⟨some 26, (.pick (.tmp 22) (.tmp 25) (.const (.bool false))), none⟩]) (.cond (.tmp 26) (.region [ 
 ⟨some 27, (.faddr 0 (.tmp 6)), none⟩,
 ⟨some 28, (.faddr 3 (.tmp 27)), none⟩,
 ⟨some 29, (.load1 (.tmp 28)), none⟩,
 ⟨some 4, (.mov (.tmp 29)), none⟩]) .skip)) (.seq (.seq (.region [ 
 ⟨some 30, (.mov (.tmp 4)), none⟩,
 ⟨some 31, (.bin .gtr (.tmp 30) (.const (.int .i64 0))), none⟩]) (.cond (.tmp 31) (.seq (.region [ 
 ⟨some 32, (.mov (.tmp 4)), none⟩,
 ⟨some 33, (.bin .sub (.tmp 32) (.const (.int .i64 1))), none⟩,
 ⟨some 4, (.mov (.tmp 33)), none⟩]) (.region [ 
 ⟨some 34, (.build [(.int .i64 0), (.int .i64 0), (.int .i64 0), (.int .i64 0), (ub 0#64)] []), none⟩,
 ⟨some 35, (.faddr 0 (.tmp 6)), none⟩,
 ⟨none, (.store 5 (.tmp 35) (.tmp 34)), none⟩])) .skip)) (.seq (.region [ 
 ⟨some 37, (.faddr 0 (.tmp 6)), none⟩,
 ⟨some 38, (.loadN 5 (.tmp 37)), none⟩,
 ⟨some 39, (.call (.func 50) [(.tmp 38)]), none⟩,
 ⟨some 36, (.mov (.tmp 39)), none⟩,
 ⟨some 40, (.ext (.tmp 36) 0), none⟩,
 ⟨some 41, (.ext (.tmp 36) 1), none⟩,
 ⟨some 7, (.mov (.tmp 40)), none⟩,
 ⟨some 8, (.mov (.tmp 41)), none⟩]) (.region [ 
 ⟨some 42, (.mov (.tmp 3)), none⟩,
 ⟨some 43, (.mov (.tmp 7)), none⟩,
 ⟨some 44, (.bslice 45 [(ub 0#64)] 1 [(0, (1, (.tmp 43)))]), none⟩,
 ⟨some 45, (.app 45 1 8 (.tmp 42) (.tmp 44)), none⟩,
 ⟨some 3, (.mov (.tmp 45)), none⟩])))))) (.region [ 
 ⟨some 46, (.bin .add (.tmp 14) (.const (.int .i64 1))), none⟩,
 ⟨some 14, (.mov (.tmp 46)), none⟩]))))))) (.seq (.region [ 
 ⟨some 47, (.mov (.tmp 3)), none⟩,
 ⟨some 2, (.mov (.tmp 47)), none⟩]) .ret))))), [(.tmp 2)]⟩
theorem ir16_ok : compFun Tryd.prog Tryd.f16 = some ir16 := by kernel_rfl

/- lockfast.tile.Chunks -/
def ir17 : IFun := ⟨28, (.seq (.region [ 
 ⟨some 2, (.mov (.const (.slice none 0 0))), none⟩,
 ⟨some 3, (.mov (.const (.bool false))), none⟩]) (.seq (.region [ 
 ⟨some 4, (.mov (.const (.slice none 0 0))), none⟩]) (.seq (.seq (.region [ 
 ⟨some 9, (.mov (.tmp 0)), none⟩,
 ⟨some 10, (.len (.tmp 9)), none⟩,
 ⟨some 11, (.mov (.const (.int .i64 0))), none⟩]) (.block 0 (.loop (.seq (.region [ 
 ⟨some 12, (.bin .lss (.tmp 11) (.tmp 10)), none⟩]) (.seq (.cond (.tmp 12) .skip (.exit 0)) (.seq (.block 1 (.seq (.region [ 
 ⟨some 13, (.iaddr 1 (.tmp 9) (.tmp 11)), none⟩,
 ⟨some 14, (.load1 (.tmp 13)), none⟩,
 ⟨some 6, (.mov (.tmp 14)), none⟩]) (.seq (.region [ 
 ⟨some 16, (.mov (.tmp 6)), none⟩,
 ⟨some 17, (.call (.func 51) [(.tmp 16)]), none⟩,
 ⟨some 15, (.mov (.tmp 17)), none⟩,
 ⟨some 18, (.ext (.tmp 15) 0), none⟩,
 ⟨some 19, (.ext (.tmp 15) 1), none⟩,
 ⟨some 7, (.alloc 47 [(.int .i64 0), (.int .i64 0), (.int .i64 0), (.int .i64 0), (ub 0#64)]), none⟩,
 ⟨none, (.store 5 (.tmp 7) (.tmp 18)), none⟩,
 ⟨some 8, (.mov (.tmp 19)), none⟩]) (.seq (.seq (.region [ 
 ⟨some 20, (.mov (.tmp 8)), none⟩,
 ⟨some 21, (.un .not (.tmp 20)), none⟩]) (.cond (.tmp 21) (.seq (.region [ 
 ⟨some 2, (.mov (.const (.slice none 0 0))), none⟩,
 ⟨some 3, (.mov (.const (.bool false))), none⟩]) .ret) .skip)) (.region [ 
 ⟨some 22, (.mov (.tmp 4)), none⟩,
 ⟨some 23, (.loadN 5 (.tmp 7)), none⟩,
 ⟨some 24, (.bslice 47 [(.int .i64 0), (.int .i64 0), (.int .i64 0), (.int .i64 0), (ub 0#64)] 1 [(0, (5, (.tmp 23)))]), none⟩,
 ⟨some 25, (.app 47 5 40 (.tmp 22) (.tmp 24)), none⟩,
 ⟨some 4, (.mov (.tmp 25)), none⟩]))))) (.region [ 
 ⟨some 26, (.bin .add (.tmp 11) (.const (.int .i64 1))), none⟩,
 ⟨some 11, (.mov (.tmp 26)), none⟩]))))))) (.seq (.region [ 
 ⟨some 27, (.mov (.tmp 4)), none⟩,
 ⟨some 2, (.mov (.tmp 27)), none⟩,
 ⟨some 3, (.mov (.const (.bool true))), none⟩]) .ret)))), [(.tmp 2), (.tmp 3)]⟩
theorem ir17_ok : compFun Tryd.prog Tryd.f17 = some ir17 := by kernel_rfl

/- lockfast.lockfastref09.Chunks -/
def ir18 : IFun := ⟨23, (.seq (.region [ 
 ⟨some 2, (.mov (.const (.int .i64 0))), none⟩]) (.seq (.region [ 
 ⟨some 5, (.mov (.tmp 0)), none⟩,
 ⟨some 6, (.call (.func 52) [(.tmp 5)]), none⟩,
 ⟨some 3, (.mov (.tmp 6)), none⟩]) (.seq (.region [ 
 ⟨some 4, (.mov (.const (.int .i64 0))), none⟩]) (.seq (.block 0 (.loop (.seq (.seq (.region [ 
 ⟨some 7, (.mov (.tmp 3)), none⟩,
 ⟨some 8, (.mov (.tmp 7)), none⟩,
 ⟨some 9, (.mov (.tmp 0)), (some (8, true))⟩,
 ⟨some 10, (.call (.func 19) [(.tmp 9)]), (some (8, true))⟩,
 ⟨some 11, (.bin .lss (.tmp 10) (.const (.int .i64 0))), (some (8, true))⟩,
 ⟨some 12, (.pick (.tmp 8) (.tmp 11) (.const (.bool false))), none⟩,
 ⟨some 13, (.mov (.tmp 12)), none⟩,
 ⟨some 14, (.mov (.tmp 4)), (some (13, true))⟩,
 ⟨some 15, (.bin .mul (.const (.int .i64 32)) (.tmp 14)), (some (13, true))⟩,
 ⟨some 16, (.mov (.tmp 0)), (some (13, true))⟩,
 ⟨some 17, (.bin .add (.tmp 16) (.const (.int .i64 2))), (some (13, true))⟩,
 ⟨some 18, (.bin .lss (.tmp 15) (.tmp 17)), (some (13, true))⟩,
 ⟨some 19, (.pick (.tmp 13) (.tmp 18) (.const (.bool false))), none⟩]) (.cond (.tmp 19) .skip (.exit 0))) (.block 1 (.region [ 
 ⟨some 20, (.mov (.tmp 4)), none⟩,
 ⟨some 21, (.bin .add (.tmp 20) (.const (.int .i64 1))), none⟩,
 ⟨some 4, (.mov (.tmp 21)), none⟩]))))) (.seq (.region [ 
 ⟨some 22, (.mov (.tmp 4)), none⟩,
 ⟨some 2, (.mov (.tmp 22)), none⟩]) .ret))))), [(.tmp 2)]⟩
theorem ir18_ok : compFun Tryd.prog Tryd.f18 = some ir18 := by kernel_rfl

/- lockfast.lockfastref09.Of -/
def ir19 : IFun := ⟨20, (.seq (.region [ 
 ⟨some 2, (.mov (.const (.int .i64 0))), none⟩]) (.seq (.region [ 
 ⟨some 5, (.mov (.tmp 0)), none⟩,
 ⟨some 6, (.call (.func 52) [(.tmp 5)]), none⟩,
 ⟨some 3, (.mov (.tmp 6)), none⟩]) (.seq (.seq (.region [ 
 ⟨some 4, (.mov (.const (.int .i64 0))), none⟩]) (.block 0 (.loop (.seq (.seq (.region [ 
 ⟨some 7, (.mov (.tmp 3)), none⟩,
 ⟨some 8, (.mov (.tmp 7)), none⟩,
 ⟨some 9, (.mov (.tmp 4)), (some (8, true))⟩,
 ⟨some 10, (.bin .lss (.tmp 9) (.const (.int .i64 3))), (some (8, true))⟩,
 ⟨some 11, (.pick (.tmp 8) (.tmp 10) (.const (.bool false))), none⟩]) (.cond (.tmp 11) .skip (.exit 0))) (.seq (.block 1 (.seq (.region [ 
 ⟨some 14, (.mov (.tmp 4)), none⟩,
 ⟨some 15, (.call (.func 40) [(.tmp 14)]), none⟩,
 ⟨some 16, (.mov (.tmp 0)), none⟩,
 ⟨some 17, (.bin .add (.tmp 16) (.const (.int .i64 2))), none⟩,
 ⟨some 18, (.bin .geq (.tmp 15) (.tmp 17)), none⟩]) (.cond (.tmp 18) (.seq (.region [ 
 ⟨some 19, (.mov (.tmp 4)), none⟩,
 ⟨some 2, (.mov (.tmp 19)), none⟩]) .ret) .skip))) (.region [ 
 ⟨some 12, (.mov (.tmp 4)), none⟩,
 ⟨some 13, (.bin .add (.tmp 12) (.const (.int .i64 1))), none⟩,
 ⟨some 4, (.mov (.tmp 13)), none⟩])))))) (.seq (.region [ 
 ⟨some 2, (.mov (.const (.int .i64 (-1)))), none⟩]) .ret)))), [(.tmp 2)]⟩
theorem ir19_ok : compFun Tryd.prog Tryd.f19 = some ir19 := by kernel_rfl

/- lockfast.lockfastref09.Many -/
def ir20 : IFun := ⟨18, (.seq (.region [ 
 ⟨some 2, (.mov (.const (.int .i64 0))), none⟩]) (.seq (.region [ 
 ⟨some 3, (.mov (.const (.int .i64 0))), none⟩]) (.seq (.block 0 (.loop (.seq (.seq (.region [ 
 ⟨some 4, (.mov (.tmp 0)), none⟩,
 ⟨some 5, (.call (.func 40) [(.tmp 4)]), none⟩,
 ⟨some 6, (.bin .gtr (.tmp 5) (.const (.int .i64 0))), none⟩,
 ⟨some 7, (.mov (.tmp 6)), none⟩,
 ⟨some 8, (.mov (.tmp 3)), (some (7, true))⟩,
 ⟨some 9, (.bin .add (.tmp 8) (.const (.int .i64 1))), (some (7, true))⟩,
 ⟨some 10, (.mov (.tmp 0)), (some (7, true))⟩,
 ⟨some 11, (.call (.func 40) [(.tmp 10)]), (some (7, true))⟩,
 ⟨some 12, (.bin .mul (.tmp 9) (.tmp 11)), (some (7, true))⟩,
 ⟨some 13, (.bin .leq (.tmp 12) (.const (.int .i64 32))), (some (7, true))⟩,
 ⟨some 14, (.pick (.tmp 7) (.tmp 13) (.const (.bool false))), none⟩]) (.cond (.tmp 14) .skip (.exit 0))) (.block 1 (.region [ 
 ⟨some 15, (.mov (.tmp 3)), none⟩,
 ⟨some 16, (.bin .add (.tmp 15) (.const (.int .i64 1))), none⟩,
 ⟨some 3, (.mov (.tmp 16)), none⟩]))))) (.seq (.region [ 
 ⟨some 17, (.mov (.tmp 3)), none⟩,
 ⟨some 2, (.mov (.tmp 17)), none⟩]) .ret)))), [(.tmp 2)]⟩
theorem ir20_ok : compFun Tryd.prog Tryd.f20 = some ir20 := by kernel_rfl

/- lockfast.lockfastref17.New -/
def ir21 : IFun := ⟨69, (.seq (.region [ 
 ⟨some 2, (.mov (.const (.pointer none))), none⟩]) (.seq (.region [ 
 ⟨some 10, (.build [(.slice none 0 0)] []), none⟩,
 ⟨some 11, (.box 87 (.tmp 10)), none⟩,
 ⟨some 3, (.mov (.tmp 11)), none⟩]) (.seq (.region [ 
 ⟨some 13, (.mov (.tmp 0)), none⟩,
 ⟨some 14, (.call (.func 53) [(.tmp 13)]), none⟩,
 ⟨some 12, (.mov (.tmp 14)), none⟩,
 ⟨some 15, (.ext (.tmp 12) 0), none⟩,
 ⟨some 16, (.ext (.tmp 12) 1), none⟩,
 ⟨some 4, (.mov (.tmp 15)), none⟩,
 ⟨some 5, (.mov (.tmp 16)), none⟩]) (.seq (.seq (.region [ 
 ⟨some 6, (.mov (.const (.int .i64 0))), none⟩]) (.block 0 (.loop (.seq (.seq (.region [ 
 ⟨some 17, (.mov (.tmp 6)), none⟩,
 ⟨some 18, (.mov (.tmp 4)), none⟩,
 ⟨some 19, (.len (.tmp 18)), none⟩,
 ⟨some 20, (.bin .lss (.tmp 17) (.tmp 19)), none⟩]) (.cond (.tmp 20) .skip (.exit 0))) (.seq (.block 1 (.seq (.region [ 
 ⟨some 23, (.mov (.tmp 4)), none⟩,
 ⟨some 24, (.mov (.tmp 6)), none⟩,
 ⟨some 25, (.iaddr 5 (.tmp 23) (.tmp 24)), none⟩,
 ⟨some 26, (.loadN 5 (.tmp 25)), none⟩,
 ⟨some 27, (.build [(.int .i64 0), (.int .i64 0), (.int .i64 0), (.int .i64 0), (ub 0#64), (.int .i64 0), (.int .i64 0), (.int .i64 0), (.int .i64 0), (.int .i64 0), (.int .i64 0), (.int .i64 0), (.int .i64 0), (.bool false)] [(0, (5, (.tmp 26)))]), none⟩,
 ⟨some 7, (.alloc 90 [(.int .i64 0), (.int .i64 0), (.int .i64 0), (.int .i64 0), (ub 0#64), (.int .i64 0), (.int .i64 0), (.int .i64 0), (.int .i64 0), (.int .i64 0), (.int .i64 0), (.int .i64 0), (.int .i64 0), (.bool false)]), none⟩,
 ⟨none, (.store 14 (.tmp 7) (.tmp 27)), none⟩]) (.seq (.seq (.region [ 
 ⟨some 8, (.mov (.const (.int .i64 0))), none⟩]) (.block 2 (.loop (.seq (.seq (.region [ 
 ⟨some 28, (.mov (.tmp 4)), none⟩,
 ⟨some 29, (.mov (.tmp 6)), none⟩,
 ⟨some 30, (.iaddr 5 (.tmp 28) (.tmp 29)), none⟩,
 ⟨some 31, (.faddr 0 (.tmp 30)), none⟩,
 ⟨some 32, (.load1 (.tmp 31)), none⟩,
 ⟨some 33, (.bin .eql (.tmp 32) (.const (.int .i64 1))), none⟩,
 ⟨some 34, (.mov (.tmp 33)), none⟩,
 ⟨some 35, (.mov (.tmp 8)), (some (34, true))⟩,
 ⟨some 36, (.mov (.tmp 4)), (some (34, true))⟩,
 ⟨some 37, (.mov (.tmp 6)), (some (34, true))⟩,
 ⟨some 38, (.iaddr 5 (.tmp 36) (.tmp 37)), (some (34, true))⟩,
 ⟨some 39, (.faddr 1 (.tmp 38)), (some (34, true))⟩,
 ⟨some 40, (.load1 (.tmp 39)), (some (34, true))⟩,
 ⟨some 41, (.call (.func 20) [(.tmp 40)]), (some (34, true))⟩,
 ⟨some 42, (.bin .lss (.tmp 35) (.tmp 41)), (some (34, true))⟩,
 ⟨some 43, (.pick (.tmp 34) (.tmp 42) (.const (.bool false))), none⟩]) (.cond (.tmp 43) .skip (.exit 2))) (.seq (.block 3 (.seq (.region [ 
 ⟨some 46, (.mov (.tmp 4)), none⟩,
 ⟨some 47, (.mov (.tmp 6)), none⟩,
 ⟨some 48, (.iaddr 5 (.tmp 46) (.tmp 47)), none⟩,
 ⟨some 49, (.loadN 5 (.tmp 48)), none⟩,
 ⟨some 50, (.mov (.tmp 8)), none⟩,
 ⟨some 51, (.call (.func 54) [(.tmp 49), (.tmp 50)]), none⟩,
 ⟨some 9, (.mov (.tmp 51)), none⟩]) (.seq (.region [ 
 ⟨some 52, (.mov (.tmp 9)), none⟩]) (.cond (.tmp 52) (.region [ 
 ⟨some 53, (.mov (.tmp 8)), none⟩,
 ⟨some 54, (.faddr 5 (.tmp 7)), none⟩,
 ⟨some 55, (.iaddrA 8 1 (.tmp 54) (.tmp 53)), none⟩,
 ⟨none, (.store 1 (.tmp 55) (.const (.int .i64 1))), none⟩]) .skip)))) (.region [ 
 ⟨some 44, (.mov (.tmp 8)), none⟩,
 ⟨some 45, (.bin .add (.tmp 44) (.const (.int .i64 1))), none⟩,
 ⟨some 8, (.mov (.tmp 45)), none⟩])))))) (.seq (.region [ 
 ⟨some 56, (.faddr 0 (.tmp 7)), none⟩,
 ⟨some 57, (.faddr 4 (.tmp 56)), none⟩,
 ⟨none, (.store 1 (.tmp 57) (.const (ub 0#64))), none⟩]) (.draw [ 
 ⟨some 58, (.mov (.tmp 3)), none⟩,
 ⟨some 59, (.mov (.tmp 3)), none⟩,
 ⟨some 60, (.nilck (.tmp 59)), none⟩,
 ⟨some 61, (.faddr 0 (.tmp 60)), none⟩,
 ⟨some 62, (.load1 (.tmp 61)), none⟩,
 ⟨some 63, (.loadN 14 (.tmp 7)), none⟩,
 ⟨some 64, (.bslice 90 [(.int .i64 0), (.int .i64 0), (.int .i64 0), (.int .i64 0), (ub 0#64), (.int .i64 0), (.int .i64 0), (.int .i64 0), (.int .i64 0), (.int .i64 0), (.int .i64 0), (.int .i64 0), (.int .i64 0), (.bool false)] 1 [(0, (14, (.tmp 63)))]), none⟩,
 ⟨some 65, (.app 90 14 112 (.tmp 62) (.tmp 64)), none⟩,
 ⟨some 66, (.nilck (.tmp 58)), none⟩,
 ⟨some 67, (.faddr 0 (.tmp 66)), none⟩,
 ⟨none, (.store 1 (.tmp 67) (.tmp 65)), none⟩] [(6, 4)]))))) (.region [ 
 ⟨some 21, (.mov (.tmp 6)), none⟩,
 ⟨some 22, (.bin .add (.tmp 21) (.const (.int .i64 1))), none⟩,
 ⟨some 6, (.mov (.tmp 22)), none⟩])))))) (.seq (.region [ 
 ⟨some 68, (.mov (.tmp 3)), none⟩,
 ⟨some 2, (.mov (.tmp 68)), none⟩]) .ret))))), [(.tmp 2)]⟩
theorem ir21_ok : compFun Tryd.prog Tryd.f21 = some ir21 := by kernel_rfl

/- lockfast.lockfastlaw17.place -/
def ir22 : IFun := ⟨23, (.seq (.region [ 
 ⟨some 3, (.box 54 (.tmp 1)), none⟩,
 ⟨some 4, (.alloc 30 [(.int .i64 0), (.int .i64 0), (.int .i64 0), (.int .i64 0), (.bool false)]), none⟩]) (.seq (.seq (.region [ 
 ⟨some 5, (.faddr 4 (.tmp 3)), none⟩,
 ⟨some 6, (.load1 (.tmp 5)), none⟩,
 ⟨some 7, (.mov (.tmp 6)), none⟩,
 ⟨some 8, (.mov (.tmp 0)), (some (7, false))⟩,
 ⟨some 9, (.len (.tmp 8)), (some (7, false))⟩,
 ⟨some 10, (.bin .eql (.tmp 9) (.const (.int .i64 0))), (some (7, false))⟩,
 ⟨some 11, (.pick (.tmp 7) (.const (.bool true)) (.tmp 10)), none⟩]) (.cond (.tmp 11) (.seq (.region [ 
 ⟨some 12, (.faddr 5 (.tmp 3)), none⟩,
 ⟨some 13, (.loadN 5 (.tmp 12)), none⟩,
 ⟨none, (.store 5 (.tmp 4) (.tmp 13)), none⟩]) .ret) .skip)) (.seq (.region [ 
 ⟨some 14, (.mov (.tmp 0)), none⟩,
 ⟨some 15, (.faddr 3 (.tmp 3)), none⟩,
 ⟨some 16, (.load1 (.tmp 15)), none⟩,
 ⟨some 17, (.conv .i64 (.tmp 16)), none⟩,
 ⟨some 18, (.mov (.tmp 0)), none⟩,
 ⟨some 19, (.len (.tmp 18)), none⟩,
 ⟨some 20, (.bin .rem (.tmp 17) (.tmp 19)), none⟩,
 ⟨some 21, (.iaddr 5 (.tmp 14) (.tmp 20)), none⟩,
 ⟨some 22, (.loadN 5 (.tmp 21)), none⟩,
 ⟨none, (.store 5 (.tmp 4) (.tmp 22)), none⟩]) .ret))), [(.cellN 5 4)]⟩
theorem ir22_ok : compFun Tryd.prog Tryd.f22 = some ir22 := by kernel_rfl

/- (*lockfast.lockfastref17.Index).Take -/
def ir23 : IFun := ⟨139, (.seq (.region [ 
 ⟨some 4, (.alloc 30 [(.int .i64 0), (.int .i64 0), (.int .i64 0), (.int .i64 0), (.bool false)]), none⟩,
 ⟨some 5, (.mov (.const (.int .i64 0))), none⟩]) (.seq (.region [ 
 ⟨some 13, (.mov (.tmp 1)), none⟩,
 ⟨some 14, (.call (.func 52) [(.tmp 13)]), none⟩,
 ⟨some 6, (.mov (.tmp 14)), none⟩]) (.seq (.seq (.region [ 
 ⟨some 15, (.mov (.tmp 6)), none⟩,
 ⟨some 16, (.un .not (.tmp 15)), none⟩]) (.cond (.tmp 16) (.seq (.region [ 
 ⟨some 17, (.build [(.int .i64 0), (.int .i64 0), (.int .i64 0), (.int .i64 0), (.bool false)] []), none⟩,
 ⟨none, (.store 5 (.tmp 4) (.tmp 17)), none⟩,
 ⟨some 5, (.mov (.const (.int .i64 1))), none⟩]) .ret) .skip)) (.seq (.region [ 
 ⟨some 18, (.mov (.tmp 1)), none⟩,
 ⟨some 19, (.call (.func 19) [(.tmp 18)]), none⟩,
 ⟨some 7, (.mov (.tmp 19)), none⟩]) (.seq (.seq (.region [ 
 ⟨some 8, (.mov (.const (.int .i64 0))), none⟩]) (.block 0 (.loop (.seq (.seq (.region [ 
 ⟨some 20, (.mov (.tmp 8)), none⟩,
 ⟨some 21, (.mov (.tmp 0)), none⟩,
 ⟨some 22, (.nilck (.tmp 21)), none⟩,
 ⟨some 23, (.faddr 0 (.tmp 22)), none⟩,
 ⟨some 24, (.load1 (.tmp 23)), none⟩,
 ⟨some 25, (.len (.tmp 24)), none⟩,
 ⟨some 26, (.bin .lss (.tmp 20) (.tmp 25)), none⟩,
 ⟨some 27, (.mov (.tmp 26)), none⟩,
 ⟨some 28, (.mov (.tmp 7)), (some (27, true))⟩,
 ⟨some 29, (.bin .geq (.tmp 28) (.const (.int .i64 0))), (some (27, true))⟩,
 ⟨some 30, (.pick (.tmp 27) (.tmp 29) (.const (.bool false))), none⟩]) (.cond (.tmp 30) .skip (.exit 0))) (.seq (.block 1 (.seq (.region [ 
 ⟨some 9, (.mov (.const (.int .i64 0))), none⟩]) (.block 2 (.loop (.seq (.seq (.region [ 
 ⟨some 33, (.mov (.tmp 0)), none⟩,
 ⟨some 34, (.nilck (.tmp 33)), none⟩,
 ⟨some 35, (.faddr 0 (.tmp 34)), none⟩,
 ⟨some 36, (.load1 (.tmp 35)), none⟩,
 ⟨some 37, (.mov (.tmp 8)), none⟩,
 ⟨some 38, (.iaddr 14 (.tmp 36) (.tmp 37)), none⟩,
 ⟨some 39, (.faddr 0 (.tmp 38)), none⟩,
 ⟨some 40, (.faddr 0 (.tmp 39)), none⟩,
 ⟨some 41, (.load1 (.tmp 40)), none⟩,
 ⟨some 42, (.bin .eql (.tmp 41) (.const (.int .i64 1))), none⟩,
 ⟨some 43, (.mov (.tmp 42)), none⟩,
 ⟨some 44, (.mov (.tmp 0)), (some (43, true))⟩,
 ⟨some 45, (.nilck (.tmp 44)), (some (43, true))⟩,
 ⟨some 46, (.faddr 0 (.tmp 45)), (some (43, true))⟩,
 ⟨some 47, (.load1 (.tmp 46)), (some (43, true))⟩,
 ⟨some 48, (.mov (.tmp 8)), (some (43, true))⟩,
 ⟨some 49, (.iaddr 14 (.tmp 47) (.tmp 48)), (some (43, true))⟩,
 ⟨some 50, (.faddr 0 (.tmp 49)), (some (43, true))⟩,
 ⟨some 51, (.faddr 1 (.tmp 50)), (some (43, true))⟩,
 ⟨some 52, (.load1 (.tmp 51)), (some (43, true))⟩,
 ⟨some 53, (.mov (.tmp 7)), (some (43, true))⟩,
 ⟨some 54, (.bin .eql (.tmp 52) (.tmp 53)), (some (43, true))⟩,
 ⟨some 55, (.pick (.tmp 43) (.tmp 54) (.const (.bool false))), none⟩,
 ⟨some 56, (.mov (.tmp 55)), none⟩,
 ⟨some 57, (.mov (.tmp 9)), (some (56, true))⟩,
 ⟨some 58, (.mov (.tmp 7)), (some (56, true))⟩,
 ⟨some 59, (.call (.func 20) [(.tmp 58)]), (some (56, true))⟩,
 ⟨some 60, (.bin .lss (.tmp 57) (.tmp 59)), (some (56, true))⟩,
 ⟨some 61, (.pick (.tmp 56) (.tmp 60) (.const (.bool false))), none⟩]) (.cond (.tmp 61) .skip (.exit 2))) (.seq (.block 3 (.seq (.region [ 
 ⟨some 64, (.mov (.tmp 0)), none⟩,
 ⟨some 65, (.nilck (.tmp 64)), none⟩,
 ⟨some 66, (.faddr 0 (.tmp 65)), none⟩,
 ⟨some 67, (.load1 (.tmp 66)), none⟩,
 ⟨some 68, (.mov (.tmp 8)), none⟩,
 ⟨some 69, (.mov (.tmp 9)), none⟩,
 ⟨some 70, (.iaddr 14 (.tmp 67) (.tmp 68)), none⟩,
 ⟨some 71, (.faddr 5 (.tmp 70)), none⟩,
 ⟨some 72, (.iaddrA 8 1 (.tmp 71) (.tmp 69)), none⟩,
 ⟨some 73, (.load1 (.tmp 72)), none⟩,
 ⟨some 74, (.bin .eql (.tmp 73) (.const (.int .i64 0))), none⟩]) (.cond (.tmp 74) (.seq (.region [ 
 ⟨some 75, (.mov (.tmp 0)), none⟩,
 ⟨some 76, (.nilck (.tmp 75)), none⟩,
 ⟨some 77, (.faddr 0 (.tmp 76)), none⟩,
 ⟨some 78, (.load1 (.tmp 77)), none⟩,
 ⟨some 79, (.mov (.tmp 8)), none⟩,
 ⟨some 80, (.mov (.tmp 9)), none⟩,
 ⟨some 81, (.iaddr 14 (.tmp 78) (.tmp 79)), none⟩,
 ⟨some 82, (.faddr 5 (.tmp 81)), none⟩,
 ⟨some 83, (.iaddrA 8 1 (.tmp 82) (.tmp 80)), none⟩,
 ⟨none, (.store 1 (.tmp 83) (.const (.int .i64 2))), none⟩]) (.seq (.region [ 
 ⟨some 84, (.mov (.tmp 8)), none⟩,
 ⟨some 85, (.mov (.tmp 9)), none⟩,
 ⟨some 86, (.mov (.tmp 7)), none⟩,
 ⟨some 87, (.build [(.int .i64 0), (.int .i64 0), (.int .i64 0), (.int .i64 0), (.bool false)] [(0, (1, (.tmp 84))), (1, (1, (.tmp 85))), (2, (1, (.tmp 86)))]), none⟩,
 ⟨none, (.store 5 (.tmp 4) (.tmp 87)), none⟩,
 ⟨some 5, (.mov (.const (.int .i64 0))), none⟩]) .ret)) .skip))) (.region [ 
 ⟨some 62, (.mov (.tmp 9)), none⟩,
 ⟨some 63, (.bin .add (.tmp 62) (.const (.int .i64 1))), none⟩,
 ⟨some 9, (.mov (.tmp 63)), none⟩]))))))) (.region [ 
 ⟨some 31, (.mov (.tmp 8)), none⟩,
 ⟨some 32, (.bin .add (.tmp 31) (.const (.int .i64 1))), none⟩,
 ⟨some 8, (.mov (.tmp 32)), none⟩])))))) (.seq (.region [ 
 ⟨some 88, (.mov (.tmp 1)), none⟩,
 ⟨some 89, (.call (.func 18) [(.tmp 88)]), none⟩,
 ⟨some 90, (.minmax true (.const (.int .i64 1)) (.tmp 89)), none⟩,
 ⟨some 10, (.mov (.tmp 90)), none⟩]) (.seq (.region [ 
 ⟨some 91, (.mov (.tmp 0)), none⟩,
 ⟨some 92, (.mov (.tmp 10)), none⟩,
 ⟨some 93, (.call (.func 55) [(.tmp 91), (.tmp 92)]), none⟩,
 ⟨some 11, (.mov (.tmp 93)), none⟩]) (.seq (.seq (.region [ 
 ⟨some 94, (.mov (.tmp 11)), none⟩,
 ⟨some 95, (.bin .lss (.tmp 94) (.const (.int .i64 0))), none⟩]) (.cond (.tmp 95) (.seq (.region [ 
 ⟨some 96, (.build [(.int .i64 0), (.int .i64 0), (.int .i64 0), (.int .i64 0), (.bool false)] []), none⟩,
 ⟨none, (.store 5 (.tmp 4) (.tmp 96)), none⟩,
 ⟨some 5, (.mov (.const (.int .i64 2))), none⟩]) .ret) .skip)) (.seq (.seq (.region [ 
 ⟨some 97, (.mov (.tmp 7)), none⟩,
 ⟨some 98, (.bin .geq (.tmp 97) (.const (.int .i64 0))), none⟩]) (.cond (.tmp 98) (.seq (.region [ 
 ⟨some 99, (.mov (.tmp 0)), none⟩,
 ⟨some 100, (.nilck (.tmp 99)), none⟩,
 ⟨some 101, (.faddr 0 (.tmp 100)), none⟩,
 ⟨some 102, (.load1 (.tmp 101)), none⟩,
 ⟨some 103, (.mov (.tmp 11)), none⟩,
 ⟨some 104, (.mov (.tmp 7)), none⟩,
 ⟨some 105, (.build [(.int .i64 0), (.int .i64 0), (.int .i64 0), (.int .i64 0), (ub 0#64)] [(0, (1, (.const (.int .i64 1)))), (1, (1, (.tmp 104)))]), none⟩,
 ⟨some 106, (.build [(.int .i64 0), (.int .i64 0), (.int .i64 0), (.int .i64 0), (.int .i64 0), (.int .i64 0), (.int .i64 0), (.int .i64 0)] [(0, (1, (.const (.int .i64 2))))]), none⟩,
 ⟨some 107, (.build [(.int .i64 0), (.int .i64 0), (.int .i64 0), (.int .i64 0), (ub 0#64), (.int .i64 0), (.int .i64 0), (.int .i64 0), (.int .i64 0), (.int .i64 0), (.int .i64 0), (.int .i64 0), (.int .i64 0), (.bool false)] [(0, (5, (.tmp 105))), (5, (8, (.tmp 106)))]), none⟩,
 ⟨some 108, (.iaddr 14 (.tmp 102) (.tmp 103)), none⟩,
 ⟨none, (.store 14 (.tmp 108) (.tmp 107)), none⟩]) (.seq (.region [ 
 ⟨some 109, (.mov (.tmp 11)), none⟩,
 ⟨some 110, (.mov (.tmp 7)), none⟩,
 ⟨some 111, (.build [(.int .i64 0), (.int .i64 0), (.int .i64 0), (.int .i64 0), (.bool false)] [(0, (1, (.tmp 109))), (2, (1, (.tmp 110))), (4, (1, (.const (.bool true))))]), none⟩,
 ⟨none, (.store 5 (.tmp 4) (.tmp 111)), none⟩,
 ⟨some 5, (.mov (.const (.int .i64 0))), none⟩]) .ret)) .skip)) (.seq (.seq (.region [ 
 ⟨some 12, (.mov (.const (.int .i64 1))), none⟩]) (.block 4 (.loop (.seq (.seq (.region [ 
 ⟨some 112, (.mov (.tmp 12)), none⟩,
 ⟨some 113, (.mov (.tmp 10)), none⟩,
 ⟨some 114, (.bin .lss (.tmp 112) (.tmp 113)), none⟩]) (.cond (.tmp 114) .skip (.exit 4))) (.seq (.block 5 (.region [ 
 ⟨some 117, (.mov (.tmp 0)), none⟩,
 ⟨some 118, (.nilck (.tmp 117)), none⟩,
 ⟨some 119, (.faddr 0 (.tmp 118)), none⟩,
 ⟨some 120, (.load1 (.tmp 119)), none⟩,
 ⟨some 121, (.mov (.tmp 11)), none⟩,
 ⟨some 122, (.mov (.tmp 12)), none⟩,
 ⟨some 123, (.bin .add (.tmp 121) (.tmp 122)), none⟩,
 ⟨some 124, (.build [(.int .i64 0), (.int .i64 0), (.int .i64 0), (.int .i64 0), (ub 0#64)] [(0, (1, (.const (.int .i64 3))))]), none⟩,
 ⟨some 125, (.build [(.int .i64 0), (.int .i64 0), (.int .i64 0), (.int .i64 0), (ub 0#64), (.int .i64 0), (.int .i64 0), (.int .i64 0), (.int .i64 0), (.int .i64 0), (.int .i64 0), (.int .i64 0), (.int .i64 0), (.bool false)] [(0, (5, (.tmp 124)))]), none⟩,
 ⟨some 126, (.iaddr 14 (.tmp 120) (.tmp 123)), none⟩,
 ⟨none, (.store 14 (.tmp 126) (.tmp 125)), none⟩])) (.region [ 
 ⟨some 115, (.mov (.tmp 12)), none⟩,
 ⟨some 116, (.bin .add (.tmp 115) (.const (.int .i64 1))), none⟩,
 ⟨some 12, (.mov (.tmp 116)), none⟩])))))) (.seq (.region [ 
 ⟨some 127, (.mov (.tmp 0)), none⟩,
 ⟨some 128, (.nilck (.tmp 127)), none⟩,
 ⟨some 129, (.faddr 0 (.tmp 128)), none⟩,
 ⟨some 130, (.load1 (.tmp 129)), none⟩,
 ⟨some 131, (.mov (.tmp 11)), none⟩,
 ⟨some 132, (.mov (.tmp 10)), none⟩,
 ⟨some 133, (.build [(.int .i64 0), (.int .i64 0), (.int .i64 0), (.int .i64 0), (ub 0#64)] [(0, (1, (.const (.int .i64 2)))), (3, (1, (.tmp 132)))]), none⟩,
 ⟨some 134, (.build [(.int .i64 0), (.int .i64 0), (.int .i64 0), (.int .i64 0), (ub 0#64), (.int .i64 0), (.int .i64 0), (.int .i64 0), (.int .i64 0), (.int .i64 0), (.int .i64 0), (.int .i64 0), (.int .i64 0), (.bool false)] [(0, (5, (.tmp 133))), (13, (1, (.const (.bool true))))]), none⟩,
 ⟨some 135, (.iaddr 14 (.tmp 130) (.tmp 131)), none⟩,
 ⟨none, (.store 14 (.tmp 135) (.tmp 134)), none⟩]) (.seq (.region [ 
 ⟨some 136, (.mov (.tmp 11)), none⟩,
 ⟨some 137, (.mov (.tmp 10)), none⟩,
 ⟨some 138, (.build [(.int .i64 0), (.int .i64 0), (.int .i64 0), (.int .i64 0), (.bool false)] [(0, (1, (.tmp 136))), (2, (1, (.const (.int .i64 (-1))))), (3, (1, (.tmp 137)))]), none⟩,
 ⟨none, (.store 5 (.tmp 4) (.tmp 138)), none⟩,
 ⟨some 5, (.mov (.const (.int .i64 0))), none⟩]) .ret)))))))))))), [(.cellN 5 4), (.tmp 5)]⟩
theorem ir23_ok : compFun Tryd.prog Tryd.f23 = some ir23 := by kernel_rfl

/- (*lockfast.index.Index).Drop -/
def ir24 : IFun := ⟨35, (.seq (.region [ 
 ⟨some 3, (.box 30 (.tmp 1)), none⟩,
 ⟨some 4, (.mov (.const (.bool false))), none⟩]) (.seq (.region [ 
 ⟨some 8, (.mov (.tmp 0)), none⟩,
 ⟨some 9, (.loadN 5 (.tmp 3)), none⟩,
 ⟨some 10, (.call (.func 47) [(.tmp 8), (.tmp 9)]), none⟩,
 ⟨some 7, (.mov (.tmp 10)), none⟩,
 ⟨some 11, (.ext (.tmp 7) 0), none⟩,
 ⟨some 12, (.ext (.tmp 7) 1), none⟩,
 ⟨some 5, (.mov (.tmp 11)), none⟩,
 ⟨some 6, (.mov (.tmp 12)), none⟩]) (.seq (.seq (.region [ 
 ⟨some 13, (.mov (.tmp 5)), none⟩,
 ⟨some 14, (.neq false (.tmp 13) (.const (.pointer none))), none⟩,
 ⟨some 15, (.mov (.tmp 14)), none⟩,
 ⟨some 16, (.mov (.tmp 5)), (some (15, false))⟩,
 ⟨some 17, (.nilck (.tmp 16)), (some (15, false))⟩,
 ⟨some 18, (.faddr 5 (.tmp 17)), (some (15, false))⟩,
 ⟨some 19, (.load1 (.tmp 18)), (some (15, false))⟩,
 ⟨some 20, (.mov (.tmp 6)), (some (15, false))⟩,
 ⟨some 21, (.bin .and (.tmp 19) (.tmp 20)), (some (15, false))⟩,
 ⟨some 22, (.bin .eql (.tmp 21) (.const (ub 0#64))), (some (15, false))⟩,
 ⟨some 23, (.pick (.tmp 15) (.const (.bool true)) (.tmp 22)), none⟩]) (.cond (.tmp 23) (.seq (.region [ 
 ⟨some 4, (.mov (.const (.bool false))), none⟩]) .ret) .skip)) (.seq (.region [ 
 ⟨some 24, (.mov (.tmp 5)), none⟩,
 ⟨some 25, (.nilck (.tmp 24)), none⟩,
 ⟨some 26, (.faddr 5 (.tmp 25)), none⟩,
 ⟨some 27, (.load1 (.tmp 26)), none⟩,
 ⟨some 28, (.mov (.tmp 6)), none⟩,
 ⟨some 29, (.bin .andNot (.tmp 27) (.tmp 28)), none⟩,
 ⟨some 30, (.nilck (.tmp 24)), none⟩,
 ⟨some 31, (.faddr 5 (.tmp 30)), none⟩,
 ⟨none, (.store 1 (.tmp 31) (.tmp 29)), none⟩]) (.seq (.region [ 
 ⟨some 32, (.mov (.tmp 0)), none⟩,
 ⟨some 33, (.loadN 5 (.tmp 3)), none⟩,
 ⟨some 34, (.call (.func 48) [(.tmp 32), (.tmp 33)]), none⟩]) (.seq (.region [ 
 ⟨some 4, (.mov (.const (.bool true))), none⟩]) .ret)))))), [(.tmp 4)]⟩
theorem ir24_ok : compFun Tryd.prog Tryd.f24 = some ir24 := by kernel_rfl

/- (*lockfast.lockfastref17.Index).Drop -/
def ir25 : IFun := ⟨8, (.seq (.region [ 
 ⟨some 3, (.box 30 (.tmp 1)), none⟩,
 ⟨some 4, (.mov (.const (.bool false))), none⟩]) (.seq (.region [ 
 ⟨some 5, (.mov (.tmp 0)), none⟩,
 ⟨some 6, (.loadN 5 (.tmp 3)), none⟩,
 ⟨some 7, (.call (.func 56) [(.tmp 5), (.tmp 6), (.const (.int .i64 2)), (.const (.int .i64 0))]), none⟩,
 ⟨some 4, (.mov (.tmp 7)), none⟩]) .ret)), [(.tmp 4)]⟩
theorem ir25_ok : compFun Tryd.prog Tryd.f25 = some ir25 := by kernel_rfl

/- (*lockfast.lockfastref17.Index).Keep -/
def ir26 : IFun := ⟨8, (.seq (.region [ 
 ⟨some 3, (.box 30 (.tmp 1)), none⟩,
 ⟨some 4, (.mov (.const (.bool false))), none⟩]) (.seq (.region [ 
 ⟨some 5, (.mov (.tmp 0)), none⟩,
 ⟨some 6, (.loadN 5 (.tmp 3)), none⟩,
 ⟨some 7, (.call (.func 56) [(.tmp 5), (.tmp 6), (.const (.int .i64 2)), (.const (.int .i64 1))]), none⟩,
 ⟨some 4, (.mov (.tmp 7)), none⟩]) .ret)), [(.tmp 4)]⟩
theorem ir26_ok : compFun Tryd.prog Tryd.f26 = some ir26 := by kernel_rfl

/- (*lockfast.lockfastref17.Index).Free -/
def ir27 : IFun := ⟨8, (.seq (.region [ 
 ⟨some 3, (.box 30 (.tmp 1)), none⟩,
 ⟨some 4, (.mov (.const (.bool false))), none⟩]) (.seq (.region [ 
 ⟨some 5, (.mov (.tmp 0)), none⟩,
 ⟨some 6, (.loadN 5 (.tmp 3)), none⟩,
 ⟨some 7, (.call (.func 56) [(.tmp 5), (.tmp 6), (.const (.int .i64 1)), (.const (.int .i64 0))]), none⟩,
 ⟨some 4, (.mov (.tmp 7)), none⟩]) .ret)), [(.tmp 4)]⟩
theorem ir27_ok : compFun Tryd.prog Tryd.f27 = some ir27 := by kernel_rfl

/- (*lockfast.index.Index).TakeLog -/
def ir28 : IFun := ⟨33, (.seq (.region [ 
 ⟨some 6, (.mov (.const (.int .i64 0))), none⟩,
 ⟨some 7, (.mov (.const (.int .i64 0))), none⟩]) (.seq (.region [ 
 ⟨some 11, (.mov (.tmp 1)), none⟩,
 ⟨some 12, (.mov (.tmp 2)), none⟩,
 ⟨some 13, (.build [(.int .i64 0), (.int .i64 0), (.int .i64 0), (.int .i64 0), (ub 0#64)] [(0, (1, (.const (.int .i64 4)))), (2, (1, (.tmp 11))), (3, (1, (.tmp 12)))]), none⟩,
 ⟨some 8, (.alloc 47 [(.int .i64 0), (.int .i64 0), (.int .i64 0), (.int .i64 0), (ub 0#64)]), none⟩,
 ⟨none, (.store 5 (.tmp 8) (.tmp 13)), none⟩]) (.seq (.seq (.region [ 
 ⟨some 14, (.loadN 5 (.tmp 8)), none⟩,
 ⟨some 15, (.call (.func 57) [(.tmp 14)]), none⟩,
 ⟨some 16, (.un .not (.tmp 15)), none⟩]) (.cond (.tmp 16) (.seq (.region [ 
 ⟨some 6, (.mov (.const (.int .i64 0))), none⟩,
 ⟨some 7, (.mov (.const (.int .i64 1))), none⟩]) .ret) .skip)) (.seq (.region [ 
 ⟨some 18, (.mov (.tmp 0)), none⟩,
 ⟨some 19, (.call (.func 58) [(.tmp 18), (.const (.int .i64 1))]), none⟩,
 ⟨some 17, (.mov (.tmp 19)), none⟩,
 ⟨some 20, (.ext (.tmp 17) 0), none⟩,
 ⟨some 21, (.ext (.tmp 17) 1), none⟩,
 ⟨some 9, (.mov (.tmp 20)), none⟩,
 ⟨some 10, (.mov (.tmp 21)), none⟩]) (.seq (.seq (.region [ 
 ⟨some 22, (.mov (.tmp 10)), none⟩,
 ⟨some 23, (.un .not (.tmp 22)), none⟩]) (.cond (.tmp 23) (.seq (.region [ 
 ⟨some 6, (.mov (.const (.int .i64 0))), none⟩,
 ⟨some 7, (.mov (.const (.int .i64 2))), none⟩]) .ret) .skip)) (.seq (.draw [ 
 ⟨some 24, (.mov (.tmp 0)), none⟩,
 ⟨some 25, (.nilck (.tmp 24)), none⟩,
 ⟨some 26, (.faddr 0 (.tmp 25)), none⟩,
 ⟨some 27, (.load1 (.tmp 26)), none⟩,
 ⟨some 28, (.mov (.tmp 9)), none⟩,
 ⟨some 29, (.loadN 5 (.tmp 8)), none⟩,
 ⟨some 30, (.build [(.int .i64 0), (.int .i64 0), (.int .i64 0), (.int .i64 0), (ub 0#64), (ub 0#64)] [(0, (5, (.tmp 29)))]), none⟩,
 ⟨some 31, (.iaddr 6 (.tmp 27) (.tmp 28)), none⟩,
 ⟨none, (.store 6 (.tmp 31) (.tmp 30)), none⟩] []) (.seq (.region [ 
 ⟨some 32, (.mov (.tmp 9)), none⟩,
 ⟨some 6, (.mov (.tmp 32)), none⟩,
 ⟨some 7, (.mov (.const (.int .i64 0))), none⟩]) .ret))))))), [(.tmp 6), (.tmp 7)]⟩
theorem ir28_ok : compFun Tryd.prog Tryd.f28 = some ir28 := by kernel_rfl

/- (*lockfast.lockfastref17.Index).TakeLog -/
def ir29 : IFun := ⟨38, (.seq (.region [ 
 ⟨some 6, (.mov (.const (.int .i64 0))), none⟩,
 ⟨some 7, (.mov (.const (.int .i64 0))), none⟩]) (.seq (.seq (.region [ 
 ⟨some 9, (.mov (.tmp 1)), none⟩,
 ⟨some 10, (.bin .lss (.tmp 9) (.const (.int .i64 0))), none⟩,
 ⟨some 11, (.mov (.tmp 10)), none⟩,
 ⟨some 12, (.mov (.tmp 1)), (some (11, false))⟩,
 ⟨some 13, (.bin .gtr (.tmp 12) (.const (.int .i64 63))), (some (11, false))⟩,
 ⟨some 14, (.pick (.tmp 11) (.const (.bool true)) (.tmp 13)), none⟩,
 ⟨some 15, (.mov (.tmp 14)), none⟩,
 ⟨some 16, (.mov (.tmp 2)), (some (15, false))⟩,
 ⟨some 17, (.bin .lss (.tmp 16) (.const (.int .i64 0))), (some (15, false))⟩,
 ⟨some 18, (.pick (.tmp 15) (.const (.bool true)) (.tmp 17)), none⟩,
 ⟨some 19, (.mov (.tmp 18)), none⟩,
 ⟨some 20, (.mov (.tmp 2)), (some (19, false))⟩,
 ⟨some 21, (.bin .gtr (.tmp 20) (.const (.int .i64 7))), (some (19, false))⟩,
 ⟨some 22, (.pick (.tmp 19) (.const (.bool true)) (.tmp 21)), none⟩]) (.cond (.tmp 22) (.seq (.region [ 
 ⟨some 6, (.mov (.const (.int .i64 0))), none⟩,
 ⟨some 7, (.mov (.const (.int .i64 1))), none⟩]) .ret) .skip)) (.seq (.region [ 
 ⟨some 23, (.mov (.tmp 0)), none⟩,
 ⟨some 24, (.call (.func 55) [(.tmp 23), (.const (.int .i64 1))]), none⟩,
 ⟨some 8, (.mov (.tmp 24)), none⟩]) (.seq (.seq (.region [ 
 ⟨some 25, (.mov (.tmp 8)), none⟩,
 ⟨some 26, (.bin .lss (.tmp 25) (.const (.int .i64 0))), none⟩]) (.cond (.tmp 26) (.seq (.region [ 
 ⟨some 6, (.mov (.const (.int .i64 0))), none⟩,
 ⟨some 7, (.mov (.const (.int .i64 2))), none⟩]) .ret) .skip)) (.seq (.region [ 
 ⟨some 27, (.mov (.tmp 0)), none⟩,
 ⟨some 28, (.nilck (.tmp 27)), none⟩,
 ⟨some 29, (.faddr 0 (.tmp 28)), none⟩,
 ⟨some 30, (.load1 (.tmp 29)), none⟩,
 ⟨some 31, (.mov (.tmp 8)), none⟩,
 ⟨some 32, (.mov (.tmp 1)), none⟩,
 ⟨some 33, (.mov (.tmp 2)), none⟩,
 ⟨some 34, (.build [(.int .i64 0), (.int .i64 0), (.int .i64 0), (.int .i64 0), (ub 0#64)] [(0, (1, (.const (.int .i64 4)))), (2, (1, (.tmp 32))), (3, (1, (.tmp 33)))]), none⟩,
 ⟨some 35, (.build [(.int .i64 0), (.int .i64 0), (.int .i64 0), (.int .i64 0), (ub 0#64), (.int .i64 0), (.int .i64 0), (.int .i64 0), (.int .i64 0), (.int .i64 0), (.int .i64 0), (.int .i64 0), (.int .i64 0), (.bool false)] [(0, (5, (.tmp 34)))]), none⟩,
 ⟨some 36, (.iaddr 14 (.tmp 30) (.tmp 31)), none⟩,
 ⟨none, (.store 14 (.tmp 36) (.tmp 35)), none⟩]) (.seq (.region [ 
 ⟨some 37, (.mov (.tmp 8)), none⟩,
 ⟨some 6, (.mov (.tmp 37)), none⟩,
 ⟨some 7, (.mov (.const (.int .i64 0))), none⟩]) .ret)))))), [(.tmp 6), (.tmp 7)]⟩
theorem ir29_ok : compFun Tryd.prog Tryd.f29 = some ir29 := by kernel_rfl

/- (*lockfast.index.Index).DropLog -/
def ir30 : IFun := ⟨35, (.seq (.region [ 
 ⟨some 4, (.mov (.const (.bool false))), none⟩]) (.seq (.seq (.region [ 
 ⟨some 5, (.mov (.tmp 1)), none⟩,
 ⟨some 6, (.bin .lss (.tmp 5) (.const (.int .i64 0))), none⟩,
 ⟨some 7, (.mov (.tmp 6)), none⟩,
 ⟨some 8, (.mov (.tmp 1)), (some (7, false))⟩,
 ⟨some 9, (.mov (.tmp 0)), (some (7, false))⟩,
 ⟨some 10, (.nilck (.tmp 9)), (some (7, false))⟩,
 ⟨some 11, (.faddr 0 (.tmp 10)), (some (7, false))⟩,
 ⟨some 12, (.load1 (.tmp 11)), (some (7, false))⟩,
 ⟨some 13, (.len (.tmp 12)), (some (7, false))⟩,
 ⟨some 14, (.bin .geq (.tmp 8) (.tmp 13)), (some (7, false))⟩,
 ⟨some 15, (.pick (.tmp 7) (.const (.bool true)) (.tmp 14)), none⟩,
 ⟨some 16, (.mov (.tmp 15)), none⟩,
 ⟨some 17, (.mov (.tmp 0)), (some (16, false))⟩,
 ⟨some 18, (.nilck (.tmp 17)), (some (16, false))⟩,
 ⟨some 19, (.faddr 0 (.tmp 18)), (some (16, false))⟩,
 ⟨some 20, (.load1 (.tmp 19)), (some (16, false))⟩,
 ⟨some 21, (.mov (.tmp 1)), (some (16, false))⟩,
 ⟨some 22, (.iaddr 6 (.tmp 20) (.tmp 21)), (some (16, false))⟩,
 ⟨some 23, (.faddr 0 (.tmp 22)), (some (16, false))⟩,
 ⟨some 24, (.faddr 0 (.tmp 23)), (some (16, false))⟩,
 ⟨some 25, (.load1 (.tmp 24)), (some (16, false))⟩,
 ⟨some 26, (.bin .neq (.tmp 25) (.const (.int .i64 4))), (some (16, false))⟩,
 ⟨some 27, (.pick (.tmp 16) (.const (.bool true)) (.tmp 26)), none⟩]) (.cond (.tmp 27) (.seq (.region [ 
 ⟨some 4, (.mov (.const (.bool false))), none⟩]) .ret) .skip)) (.seq (.region [ 
 ⟨some 28, (.mov (.tmp 0)), none⟩,
 ⟨some 29, (.nilck (.tmp 28)), none⟩,
 ⟨some 30, (.faddr 0 (.tmp 29)), none⟩,
 ⟨some 31, (.load1 (.tmp 30)), none⟩,
 ⟨some 32, (.mov (.tmp 1)), none⟩,
 ⟨some 33, (.build [(.int .i64 0), (.int .i64 0), (.int .i64 0), (.int .i64 0), (ub 0#64), (ub 0#64)] []), none⟩,
 ⟨some 34, (.iaddr 6 (.tmp 31) (.tmp 32)), none⟩,
 ⟨none, (.store 6 (.tmp 34) (.tmp 33)), none⟩]) (.seq (.region [ 
 ⟨some 4, (.mov (.const (.bool true))), none⟩]) .ret)))), [(.tmp 4)]⟩
theorem ir30_ok : compFun Tryd.prog Tryd.f30 = some ir30 := by kernel_rfl

/- (*lockfast.lockfastref17.Index).DropLog -/
def ir31 : IFun := ⟨33, (.seq (.region [ 
 ⟨some 4, (.mov (.const (.bool false))), none⟩]) (.seq (.seq (.region [ 
 ⟨some 5, (.mov (.tmp 1)), none⟩,
 ⟨some 6, (.bin .lss (.tmp 5) (.const (.int .i64 0))), none⟩,
 ⟨some 7, (.mov (.tmp 6)), none⟩,
 ⟨some 8, (.mov (.tmp 1)), (some (7, false))⟩,
 ⟨some 9, (.mov (.tmp 0)), (some (7, false))⟩,
 ⟨some 10, (.nilck (.tmp 9)), (some (7, false))⟩,
 ⟨some 11, (.faddr 0 (.tmp 10)), (some (7, false))⟩,
 ⟨some 12, (.load1 (.tmp 11)), (some (7, false))⟩,
 ⟨some 13, (.len (.tmp 12)), (some (7, false))⟩,
 ⟨some 14, (.bin .geq (.tmp 8) (.tmp 13)), (some (7, false))⟩,
 ⟨some 15, (.pick (.tmp 7) (.const (.bool true)) (.tmp 14)), none⟩]) (.cond (.tmp 15) (.seq (.region [ 
 ⟨some 4, (.mov (.const (.bool false))), none⟩]) .ret) .skip)) (.seq (.seq (.region [ 
 ⟨some 16, (.mov (.tmp 0)), none⟩,
 ⟨some 17, (.nilck (.tmp 16)), none⟩,
 ⟨some 18, (.faddr 0 (.tmp 17)), none⟩,
 ⟨some 19, (.load1 (.tmp 18)), none⟩,
 ⟨some 20, (.mov (.tmp 1)), none⟩,
 ⟨some 21, (.iaddr 14 (.tmp 19) (.tmp 20)), none⟩,
 ⟨some 22, (.faddr 0 (.tmp 21)), none⟩,
 ⟨some 23, (.faddr 0 (.tmp 22)), none⟩,
 ⟨some 24, (.load1 (.tmp 23)), none⟩,
 ⟨some 25, (.bin .neq (.tmp 24) (.const (.int .i64 4))), none⟩]) (.cond (.tmp 25) (.seq (.region [ 
 ⟨some 4, (.mov (.const (.bool false))), none⟩]) .ret) .skip)) (.seq (.region [ 
 ⟨some 26, (.mov (.tmp 0)), none⟩,
 ⟨some 27, (.nilck (.tmp 26)), none⟩,
 ⟨some 28, (.faddr 0 (.tmp 27)), none⟩,
 ⟨some 29, (.load1 (.tmp 28)), none⟩,
 ⟨some 30, (.mov (.tmp 1)), none⟩,
 ⟨some 31, (.build [(.int .i64 0), (.int .i64 0), (.int .i64 0), (.int .i64 0), (ub 0#64), (.int .i64 0), (.int .i64 0), (.int .i64 0), (.int .i64 0), (.int .i64 0), (.int .i64 0), (.int .i64 0), (.int .i64 0), (.bool false)] []), none⟩,
 ⟨some 32, (.iaddr 14 (.tmp 29) (.tmp 30)), none⟩,
 ⟨none, (.store 14 (.tmp 32) (.tmp 31)), none⟩]) (.seq (.region [ 
 ⟨some 4, (.mov (.const (.bool true))), none⟩]) .ret))))), [(.tmp 4)]⟩
theorem ir31_ok : compFun Tryd.prog Tryd.f31 = some ir31 := by kernel_rfl

/- lockfast.lockfastref01.Words -/
def ir32 : IFun := ⟨26, (.seq (.region [ 
 ⟨some 4, (.mov (.const (.bool false))), none⟩]) (.seq (.seq (.region [ 
 ⟨some 6, (.mov (.tmp 0)), none⟩,
 ⟨some 7, (.len (.tmp 6)), none⟩,
 ⟨some 8, (.mov (.tmp 1)), none⟩,
 ⟨some 9, (.len (.tmp 8)), none⟩,
 ⟨some 10, (.bin .neq (.tmp 7) (.tmp 9)), none⟩]) (.cond (.tmp 10) (.seq (.region [ 
 ⟨some 4, (.mov (.const (.bool false))), none⟩]) .ret) .skip)) (.seq (.seq (.region [ 
 ⟨some 5, (.mov (.const (.int .i64 0))), none⟩]) (.block 0 (.loop (.seq (.seq (.region [ 
 ⟨some 11, (.mov (.tmp 5)), none⟩,
 ⟨some 12, (.mov (.tmp 0)), none⟩,
 ⟨some 13, (.len (.tmp 12)), none⟩,
 ⟨some 14, (.bin .lss (.tmp 11) (.tmp 13)), none⟩]) (.cond (.tmp 14) .skip (.exit 0))) (.seq (.block 1 (.seq (.draw [ 
 ⟨some 17, (.mov (.tmp 0)), none⟩,
 ⟨some 18, (.mov (.tmp 5)), none⟩,
 ⟨some 19, (.iaddr 1 (.tmp 17) (.tmp 18)), none⟩,
 ⟨some 20, (.load1 (.tmp 19)), none⟩,
 ⟨some 21, (.mov (.tmp 1)), none⟩,
 ⟨some 22, (.mov (.tmp 5)), none⟩,
 ⟨some 23, (.iaddr 1 (.tmp 21) (.tmp 22)), none⟩,
 ⟨some 24, (.load1 (.tmp 23)), none⟩,
 ⟨some 25, (.bin .neq (.tmp 20) (.tmp 24)), none⟩] []) (.cond (.tmp 25) (.seq (.region [ 
 ⟨some 4, (.mov (.const (.bool false))), none⟩]) .ret) .skip))) (.region [ 
 ⟨some 15, (.mov (.tmp 5)), none⟩,
 ⟨some 16, (.bin .add (.tmp 15) (.const (.int .i64 1))), none⟩,
 ⟨some 5, (.mov (.tmp 16)), none⟩])))))) (.seq (.region [ 
 ⟨some 4, (.mov (.const (.bool true))), none⟩]) .ret)))), [(.tmp 4)]⟩
theorem ir32_ok : compFun Tryd.prog Tryd.f32 = some ir32 := by kernel_rfl

/- (*lockfast.lockfastref17.Index).Table -/
def ir33 : IFun := ⟨88, (.seq (.region [ 
 ⟨some 2, (.mov (.const (.slice none 0 0))), none⟩]) (.seq (.region [ 
 ⟨some 3, (.mov (.const (.slice none 0 0))), none⟩]) (.seq (.seq (.region [ 
 ⟨some 4, (.mov (.const (.int .i64 0))), none⟩]) (.block 0 (.loop (.seq (.seq (.region [ 
 ⟨some 10, (.mov (.tmp 4)), none⟩,
 ⟨some 11, (.mov (.tmp 0)), none⟩,
 ⟨some 12, (.nilck (.tmp 11)), none⟩,
 ⟨some 13, (.faddr 0 (.tmp 12)), none⟩,
 ⟨some 14, (.load1 (.tmp 13)), none⟩,
 ⟨some 15, (.len (.tmp 14)), none⟩,
 ⟨some 16, (.bin .lss (.tmp 10) (.tmp 15)), none⟩]) (.cond (.tmp 16) .skip (.exit 0))) (.seq (.block 1 (.seq (.region [ 
 ⟨some 19, (.mov (.tmp 0)), none⟩,
 ⟨some 20, (.nilck (.tmp 19)), none⟩,
 ⟨some 21, (.faddr 0 (.tmp 20)), none⟩,
 ⟨some 22, (.load1 (.tmp 21)), none⟩,
 ⟨some 23, (.mov (.tmp 4)), none⟩,
 ⟨some 24, (.iaddr 14 (.tmp 22) (.tmp 23)), none⟩,
 ⟨some 25, (.faddr 0 (.tmp 24)), none⟩,
 ⟨some 26, (.loadN 5 (.tmp 25)), none⟩,
 ⟨some 5, (.alloc 47 [(.int .i64 0), (.int .i64 0), (.int .i64 0), (.int .i64 0), (ub 0#64)]), none⟩,
 ⟨none, (.store 5 (.tmp 5) (.tmp 26)), none⟩]) (.seq (.seq (.region [ 
 ⟨some 6, (.mov (.const (.int .i64 0))), none⟩]) (.block 2 (.loop (.seq (.seq (.region [ 
 ⟨some 27, (.mov (.tmp 6)), none⟩,
 ⟨some 28, (.bin .lss (.tmp 27) (.const (.int .i64 8))), none⟩]) (.cond (.tmp 28) .skip (.exit 2))) (.seq (.block 3 (.seq (.region [ 
 ⟨some 31, (.mov (.tmp 0)), none⟩,
 ⟨some 32, (.nilck (.tmp 31)), none⟩,
 ⟨some 33, (.faddr 0 (.tmp 32)), none⟩,
 ⟨some 34, (.load1 (.tmp 33)), none⟩,
 ⟨some 35, (.mov (.tmp 4)), none⟩,
 ⟨some 36, (.mov (.tmp 6)), none⟩,
 ⟨some 37, (.iaddr 14 (.tmp 34) (.tmp 35)), none⟩,
 ⟨some 38, (.faddr 5 (.tmp 37)), none⟩,
 ⟨some 39, (.iaddrA 8 1 (.tmp 38) (.tmp 36)), none⟩,
 ⟨some 40, (.load1 (.tmp 39)), none⟩,
 ⟨some 41, (.bin .eql (.tmp 40) (.const (.int .i64 1))), none⟩]) (.cond (.tmp 41) (.draw [ 
 ⟨some 42, (.faddr 4 (.tmp 5)), none⟩,
 ⟨some 43, (.load1 (.tmp 42)), none⟩,
 ⟨some 44, (.mov (.tmp 6)), none⟩,
 ⟨some 45, (.call (.func 59) [(.tmp 44)]), none⟩,
 ⟨some 46, (.bin .quo (.tmp 45) (.const (ub 16777216#64))), none⟩,
 ⟨some 47, (.bin .add (.tmp 43) (.tmp 46)), none⟩,
 ⟨some 48, (.faddr 4 (.tmp 5)), none⟩,
 ⟨none, (.store 1 (.tmp 48) (.tmp 47)), none⟩] [(3, 1)]) .skip))) (.region [ 
 ⟨some 29, (.mov (.tmp 6)), none⟩,
 ⟨some 30, (.bin .add (.tmp 29) (.const (.int .i64 1))), none⟩,
 ⟨some 6, (.mov (.tmp 30)), none⟩])))))) (.seq (.seq (.region [ 
 ⟨some 7, (.mov (.const (.int .i64 0))), none⟩]) (.block 4 (.loop (.seq (.seq (.region [ 
 ⟨some 49, (.mov (.tmp 7)), none⟩,
 ⟨some 50, (.mov (.tmp 4)), none⟩,
 ⟨some 51, (.bin .leq (.tmp 49) (.tmp 50)), none⟩]) (.cond (.tmp 51) .skip (.exit 4))) (.seq (.block 5 (.seq (.region [ 
 ⟨some 54, (.mov (.tmp 0)), none⟩,
 ⟨some 55, (.nilck (.tmp 54)), none⟩,
 ⟨some 56, (.faddr 0 (.tmp 55)), none⟩,
 ⟨some 57, (.load1 (.tmp 56)), none⟩,
 ⟨some 58, (.mov (.tmp 7)), none⟩,
 ⟨some 59, (.iaddr 14 (.tmp 57) (.tmp 58)), none⟩,
 ⟨some 60, (.faddr 13 (.tmp 59)), none⟩,
 ⟨some 61, (.load1 (.tmp 60)), none⟩,
 ⟨some 62, (.mov (.tmp 61)), none⟩,
 ⟨some 63, (.mov (.tmp 4)), (some (62, true))⟩,
 ⟨some 64, (.mov (.tmp 7)), (some (62, true))⟩,
 ⟨some 65, (.mov (.tmp 0)), (some (62, true))⟩,
 ⟨some 66, (.nilck (.tmp 65)), (some (62, true))⟩,
 ⟨some 67, (.faddr 0 (.tmp 66)), (some (62, true))⟩,
 ⟨some 68, (.load1 (.tmp 67)), (some (62, true))⟩,
 ⟨some 69, (.mov (.tmp 7)), (some (62, true))⟩,
 ⟨some 70, (.iaddr 14 (.tmp 68) (.tmp 69)), (some (62, true))⟩,
 ⟨some 71, (.faddr 0 (.tmp 70)), (some (62, true))⟩,
 ⟨some 72, (.faddr 3 (.tmp 71)), (some (62, true))⟩,
 ⟨some 73, (.load1 (.tmp 72)), (some (62, true))⟩,
 ⟨some 74, (.bin .add (.tmp 64) (.tmp 73)), (some (62, true))⟩,
 ⟨some 75, (.bin .lss (.tmp 63) (.tmp 74)), (some (62, true))⟩,
 ⟨some 76, (.pick (.tmp 62) (.tmp 75) (.const (.bool false))), none⟩]) (.cond (.tmp 76) (.region [ 
 ⟨some 77, (.build [(.int .i64 0), (.int .i64 0), (.int .i64 0), (.int .i64 0), (ub 0#64)] []), none⟩,
 ⟨none, (.store 5 (.tmp 5) (.tmp 77)), none⟩]) .skip))) (.region [ 
 ⟨some 52, (.mov (.tmp 7)), none⟩,
 ⟨some 53, (.bin .add (.tmp 52) (.const (.int .i64 1))), none⟩,
 ⟨some 7, (.mov (.tmp 53)), none⟩])))))) (.seq (.region [ 
 ⟨some 79, (.loadN 5 (.tmp 5)), none⟩,
 ⟨some 80, (.call (.func 41) [(.tmp 79)]), none⟩,
 ⟨some 78, (.mov (.tmp 80)), none⟩,
 ⟨some 81, (.ext (.tmp 78) 0), none⟩,
 ⟨some 82, (.ext (.tmp 78) 1), none⟩,
 ⟨some 8, (.mov (.tmp 81)), none⟩,
 ⟨some 9, (.mov (.tmp 82)), none⟩]) (.region [ 
 ⟨some 83, (.mov (.tmp 3)), none⟩,
 ⟨some 84, (.mov (.tmp 8)), none⟩,
 ⟨some 85, (.bslice 45 [(ub 0#64)] 1 [(0, (1, (.tmp 84)))]), none⟩,
 ⟨some 86, (.app 45 1 8 (.tmp 83) (.tmp 85)), none⟩,
 ⟨some 3, (.mov (.tmp 86)), none⟩])))))) (.region [ 
 ⟨some 17, (.mov (.tmp 4)), none⟩,
 ⟨some 18, (.bin .add (.tmp 17) (.const (.int .i64 1))), none⟩,
 ⟨some 4, (.mov (.tmp 18)), none⟩])))))) (.seq (.region [ 
 ⟨some 87, (.mov (.tmp 3)), none⟩,
 ⟨some 2, (.mov (.tmp 87)), none⟩]) .ret)))), [(.tmp 2)]⟩
theorem ir33_ok : compFun Tryd.prog Tryd.f33 = some ir33 := by kernel_rfl

/- lockfast.lockfastref04.Same -/
def ir34 : IFun := ⟨26, (.seq (.region [ 
 ⟨some 4, (.mov (.const (.bool false))), none⟩]) (.seq (.seq (.region [ 
 ⟨some 6, (.mov (.tmp 0)), none⟩,
 ⟨some 7, (.len (.tmp 6)), none⟩,
 ⟨some 8, (.mov (.tmp 1)), none⟩,
 ⟨some 9, (.len (.tmp 8)), none⟩,
 ⟨some 10, (.bin .neq (.tmp 7) (.tmp 9)), none⟩]) (.cond (.tmp 10) (.seq (.region [ 
 ⟨some 4, (.mov (.const (.bool false))), none⟩]) .ret) .skip)) (.seq (.seq (.region [ 
 ⟨some 5, (.mov (.const (.int .i64 0))), none⟩]) (.block 0 (.loop (.seq (.seq (.region [ 
 ⟨some 11, (.mov (.tmp 5)), none⟩,
 ⟨some 12, (.mov (.tmp 0)), none⟩,
 ⟨some 13, (.len (.tmp 12)), none⟩,
 ⟨some 14, (.bin .lss (.tmp 11) (.tmp 13)), none⟩]) (.cond (.tmp 14) .skip (.exit 0))) (.seq (.block 1 (.seq (.draw [ 
 ⟨some 17, (.mov (.tmp 0)), none⟩,
 ⟨some 18, (.mov (.tmp 5)), none⟩,
 ⟨some 19, (.iaddr 2 (.tmp 17) (.tmp 18)), none⟩,
 ⟨some 20, (.loadN 2 (.tmp 19)), none⟩,
 ⟨some 21, (.mov (.tmp 1)), none⟩,
 ⟨some 22, (.mov (.tmp 5)), none⟩,
 ⟨some 23, (.iaddr 2 (.tmp 21) (.tmp 22)), none⟩,
 ⟨some 24, (.loadN 2 (.tmp 23)), none⟩,
 ⟨some 25, (.seq true [(0, true), (1, true)] (.tmp 20) (.tmp 24)), none⟩] []) (.cond (.tmp 25) (.seq (.region [ 
 ⟨some 4, (.mov (.const (.bool false))), none⟩]) .ret) .skip))) (.region [ 
 ⟨some 15, (.mov (.tmp 5)), none⟩,
 ⟨some 16, (.bin .add (.tmp 15) (.const (.int .i64 1))), none⟩,
 ⟨some 5, (.mov (.tmp 16)), none⟩])))))) (.seq (.region [ 
 ⟨some 4, (.mov (.const (.bool true))), none⟩]) .ret)))), [(.tmp 4)]⟩
theorem ir34_ok : compFun Tryd.prog Tryd.f34 = some ir34 := by kernel_rfl

/- (*lockfast.index.Index).Rows -/
def ir35 : IFun := ⟨50, (.seq (.region [ 
 ⟨some 2, (.mov (.const (.slice none 0 0))), none⟩]) (.seq (.seq (.region [ 
 ⟨some 3, (.mov (.const (.slice none 0 0))), none⟩]) (.seq .skip (.seq (.seq (.region [ 
 ⟨some 4, (.mov (.const (.int .i64 0))), none⟩]) (.block 0 (.loop (.seq (.seq (.region [ 
 ⟨some 6, (.mov (.tmp 4)), none⟩,
 ⟨some 7, (.mov (.tmp 0)), none⟩,
 ⟨some 8, (.nilck (.tmp 7)), none⟩,
 ⟨some 9, (.faddr 0 (.tmp 8)), none⟩,
 ⟨some 10, (.load1 (.tmp 9)), none⟩,
 ⟨some 11, (.len (.tmp 10)), none⟩,
 ⟨some 12, (.bin .lss (.tmp 6) (.tmp 11)), none⟩]) (.cond (.tmp 12) .skip (.exit 0))) (.seq (.block 1 (.seq (.region [ 
 ⟨some 15, (.mov (.tmp 4)), none⟩,
 ⟨some 16, (.build [(.int .i64 0), (.int .i64 0)] [(0, (1, (.tmp 15)))]), none⟩,
 ⟨some 5, (.alloc 43 [(.int .i64 0), (.int .i64 0)]), none⟩,
 ⟨none, (.store 2 (.tmp 5) (.tmp 16)), none⟩]) (.seq (.block 2 (.loop (.seq (.seq (.region [ 
 ⟨some 17, (.mov (.tmp 0)), none⟩,
 ⟨some 18, (.nilck (.tmp 17)), none⟩,
 ⟨some 19, (.faddr 0 (.tmp 18)), none⟩,
 ⟨some 20, (.load1 (.tmp 19)), none⟩,
 ⟨some 21, (.mov (.tmp 4)), none⟩,
 ⟨some 22, (.iaddr 6 (.tmp 20) (.tmp 21)), none⟩,
 ⟨some 23, (.loadN 6 (.tmp 22)), none⟩,
 ⟨some 24, (.call (.func 60) [(.tmp 23)]), none⟩]) (.cond (.tmp 24) .skip (.exit 2))) (.block 3 (.seq (.region [ 
 ⟨some 25, (.faddr 1 (.tmp 5)), none⟩,
 ⟨some 26, (.load1 (.tmp 25)), none⟩,
 ⟨some 27, (.bin .add (.tmp 26) (.const (.int .i64 1))), none⟩,
 ⟨some 28, (.faddr 1 (.tmp 5)), none⟩,
 ⟨none, (.store 1 (.tmp 28) (.tmp 27)), none⟩]) (.seq (.region [ 
 ⟨some 29, (.mov (.tmp 4)), none⟩,
 ⟨some 30, (.bin .add (.tmp 29) (.const (.int .i64 1))), none⟩,
 ⟨some 4, (.mov (.tmp 30)), none⟩]) (.seq (.region [ 
 ⟨some 31, (.mov (.tmp 4)), none⟩,
 ⟨some 32, (.mov (.tmp 0)), none⟩,
 ⟨some 33, (.nilck (.tmp 32)), none⟩,
 ⟨some 34, (.faddr 0 (.tmp 33)), none⟩,
 ⟨some 35, (.load1 (.tmp 34)), none⟩,
 ⟨some 36, (.len (.tmp 35)), none⟩,
 ⟨some 37, (.bin .eql (.tmp 31) (.tmp 36)), none⟩]) (.cond (.tmp 37) (.seq (.region [ 
 ⟨some 38, (.mov (.tmp 3)), none⟩,
 ⟨some 39, (.loadN 2 (.tmp 5)), none⟩,
 ⟨some 40, (.bslice 43 [(.int .i64 0), (.int .i64 0)] 1 [(0, (2, (.tmp 39)))]), none⟩,
 ⟨some 41, (.app 43 2 16 (.tmp 38) (.tmp 40)), none⟩,
 ⟨some 3, (.mov (.tmp 41)), none⟩]) (.exit 0)) .skip)))))))) (.seq (.region [ 
 ⟨some 42, (.faddr 1 (.tmp 5)), none⟩,
 ⟨some 43, (.load1 (.tmp 42)), none⟩,
 ⟨some 44, (.bin .gtr (.tmp 43) (.const (.int .i64 0))), none⟩]) (.cond (.tmp 44) (.region [ 
 ⟨some 45, (.mov (.tmp 3)), none⟩,
 ⟨some 46, (.loadN 2 (.tmp 5)), none⟩,
 ⟨some 47, (.bslice 43 [(.int .i64 0), (.int .i64 0)] 1 [(0, (2, (.tmp 46)))]), none⟩,
 ⟨some 48, (.app 43 2 16 (.tmp 45) (.tmp 47)), none⟩,
 ⟨some 3, (.mov (.tmp 48)), none⟩]) .skip))))) (.region [ 
 ⟨some 13, (.mov (.tmp 4)), none⟩,
 ⟨some 14, (.bin .add (.tmp 13) (.const (.int .i64 1))), none⟩,
 ⟨some 4, (.mov (.tmp 14)), none⟩])))))) (.seq (.region [ 
 ⟨some 49, (.mov (.tmp 3)), none⟩,
 ⟨some 2, (.mov (.tmp 49)), none⟩]) .ret)))) .skip)), [(.tmp 2)]⟩
theorem ir35_ok : compFun Tryd.prog Tryd.f35 = some ir35 := by kernel_rfl

/- (*lockfast.lockfastref17.Index).Rows -/
def ir36 : IFun := ⟨50, (.seq (.region [ 
 ⟨some 2, (.mov (.const (.slice none 0 0))), none⟩]) (.seq (.region [ 
 ⟨some 3, (.mov (.const (.slice none 0 0))), none⟩]) (.seq (.seq (.region [ 
 ⟨some 4, (.mov (.const (.int .i64 0))), none⟩]) (.block 0 (.loop (.seq (.seq (.region [ 
 ⟨some 7, (.mov (.tmp 4)), none⟩,
 ⟨some 8, (.mov (.tmp 0)), none⟩,
 ⟨some 9, (.nilck (.tmp 8)), none⟩,
 ⟨some 10, (.faddr 0 (.tmp 9)), none⟩,
 ⟨some 11, (.load1 (.tmp 10)), none⟩,
 ⟨some 12, (.len (.tmp 11)), none⟩,
 ⟨some 13, (.bin .lss (.tmp 7) (.tmp 12)), none⟩]) (.cond (.tmp 13) .skip (.exit 0))) (.seq (.block 1 (.seq (.region [ 
 ⟨some 16, (.mov (.tmp 0)), none⟩,
 ⟨some 17, (.mov (.tmp 4)), none⟩,
 ⟨some 18, (.call (.func 61) [(.tmp 16), (.tmp 17)]), none⟩,
 ⟨some 5, (.mov (.tmp 18)), none⟩]) (.seq (.seq (.region [ 
 ⟨some 19, (.mov (.tmp 5)), none⟩,
 ⟨some 20, (.un .not (.tmp 19)), none⟩]) (.cond (.tmp 20) (.exit 1) .skip)) (.seq (.region [ 
 ⟨some 21, (.mov (.tmp 4)), none⟩,
 ⟨some 22, (.bin .gtr (.tmp 21) (.const (.int .i64 0))), none⟩,
 ⟨some 23, (.mov (.tmp 22)), none⟩,
 ⟨some 24, (.mov (.tmp 0)), (some (23, true))⟩,
 ⟨some 25, (.mov (.tmp 4)), (some (23, true))⟩,
 ⟨some 26, (.bin .sub (.tmp 25) (.const (.int .i64 1))), (some (23, true))⟩,
 ⟨some 27, (.call (.func 61) [(.tmp 24), (.tmp 26)]), (some (23, true))⟩,
 ⟨some 28, (.pick (.tmp 23) (.tmp 27) (.const (.bool false))), none⟩,
 ⟨some 6, (.mov (.tmp 28)), none⟩]) (.seq (.region [ 
 ⟨some 29, (.mov (.tmp 6)), none⟩]) (.cond (.tmp 29) (.region [ 
 ⟨some 30, (.mov (.tmp 3)), none⟩,
 ⟨some 31, (.mov (.tmp 3)), none⟩,
 ⟨some 32, (.len (.tmp 31)), none⟩,
 ⟨some 33, (.bin .sub (.tmp 32) (.const (.int .i64 1))), none⟩,
 ⟨some 34, (.mov (.tmp 3)), none⟩,
 ⟨some 35, (.mov (.tmp 3)), none⟩,
 ⟨some 36, (.len (.tmp 35)), none⟩,
 ⟨some 37, (.bin .sub (.tmp 36) (.const (.int .i64 1))), none⟩,
 ⟨some 38, (.iaddr 2 (.tmp 34) (.tmp 37)), none⟩,
 ⟨some 39, (.faddr 1 (.tmp 38)), none⟩,
 ⟨some 40, (.load1 (.tmp 39)), none⟩,
 ⟨some 41, (.bin .add (.tmp 40) (.const (.int .i64 1))), none⟩,
 ⟨some 42, (.iaddr 2 (.tmp 30) (.tmp 33)), none⟩,
 ⟨some 43, (.faddr 1 (.tmp 42)), none⟩,
 ⟨none, (.store 1 (.tmp 43) (.tmp 41)), none⟩]) (.region [ 
 ⟨some 44, (.mov (.tmp 3)), none⟩,
 ⟨some 45, (.mov (.tmp 4)), none⟩,
 ⟨some 46, (.build [(.int .i64 0), (.int .i64 0)] [(0, (1, (.tmp 45))), (1, (1, (.const (.int .i64 1))))]), none⟩,
 ⟨some 47, (.bslice 43 [(.int .i64 0), (.int .i64 0)] 1 [(0, (2, (.tmp 46)))]), none⟩,
 ⟨some 48, (.app 43 2 16 (.tmp 44) (.tmp 47)), none⟩,
 ⟨some 3, (.mov (.tmp 48)), none⟩]))))))) (.region [ 
 ⟨some 14, (.mov (.tmp 4)), none⟩,
 ⟨some 15, (.bin .add (.tmp 14) (.const (.int .i64 1))), none⟩,
 ⟨some 4, (.mov (.tmp 15)), none⟩])))))) (.seq (.region [ 
 ⟨some 49, (.mov (.tmp 3)), none⟩,
 ⟨some 2, (.mov (.tmp 49)), none⟩]) .ret)))), [(.tmp 2)]⟩
theorem ir36_ok : compFun Tryd.prog Tryd.f36 = some ir36 := by kernel_rfl

/- lockfast.tile.Blocks -/
def ir37 : IFun := ⟨13, (.seq (.region [ 
 ⟨some 2, (.mov (.const (.slice none 0 0))), none⟩]) (.seq (.region [ 
 ⟨some 3, (.alloc 63 [(.slice none 0 0)]), none⟩]) (.seq (.seq (.region [ 
 ⟨some 5, (.mov (.tmp 0)), none⟩,
 ⟨some 6, (.call (.func 62) [(.tmp 5)]), none⟩]) (.block 0 (.rangeF (.tmp 6) [7] (.region [ 
 ⟨some 4, (.alloc 69 [(.int .i64 0), (.int .i64 0), (.int .i64 0)]), none⟩,
 ⟨none, (.store 3 (.tmp 4) (.tmp 7)), none⟩]) (.block 1 (.region [ 
 ⟨some 8, (.load1 (.tmp 3)), none⟩,
 ⟨some 9, (.loadN 3 (.tmp 4)), none⟩,
 ⟨some 10, (.bslice 69 [(.int .i64 0), (.int .i64 0), (.int .i64 0)] 1 [(0, (3, (.tmp 9)))]), none⟩,
 ⟨some 11, (.app 69 3 24 (.tmp 8) (.tmp 10)), none⟩,
 ⟨none, (.store 1 (.tmp 3) (.tmp 11)), none⟩]))))) (.seq (.region [ 
 ⟨some 12, (.load1 (.tmp 3)), none⟩,
 ⟨some 2, (.mov (.tmp 12)), none⟩]) .ret)))), [(.tmp 2)]⟩
theorem ir37_ok : compFun Tryd.prog Tryd.f37 = some ir37 := by kernel_rfl

/- lockfast.lockfastref11.Same -/
def ir38 : IFun := ⟨26, (.seq (.region [ 
 ⟨some 4, (.mov (.const (.bool false))), none⟩]) (.seq (.seq (.region [ 
 ⟨some 6, (.mov (.tmp 0)), none⟩,
 ⟨some 7, (.len (.tmp 6)), none⟩,
 ⟨some 8, (.mov (.tmp 1)), none⟩,
 ⟨some 9, (.len (.tmp 8)), none⟩,
 ⟨some 10, (.bin .neq (.tmp 7) (.tmp 9)), none⟩]) (.cond (.tmp 10) (.seq (.region [ 
 ⟨some 4, (.mov (.const (.bool false))), none⟩]) .ret) .skip)) (.seq (.seq (.region [ 
 ⟨some 5, (.mov (.const (.int .i64 0))), none⟩]) (.block 0 (.loop (.seq (.seq (.region [ 
 ⟨some 11, (.mov (.tmp 5)), none⟩,
 ⟨some 12, (.mov (.tmp 0)), none⟩,
 ⟨some 13, (.len (.tmp 12)), none⟩,
 ⟨some 14, (.bin .lss (.tmp 11) (.tmp 13)), none⟩]) (.cond (.tmp 14) .skip (.exit 0))) (.seq (.block 1 (.seq (.draw [ 
 ⟨some 17, (.mov (.tmp 0)), none⟩,
 ⟨some 18, (.mov (.tmp 5)), none⟩,
 ⟨some 19, (.iaddr 3 (.tmp 17) (.tmp 18)), none⟩,
 ⟨some 20, (.loadN 3 (.tmp 19)), none⟩,
 ⟨some 21, (.mov (.tmp 1)), none⟩,
 ⟨some 22, (.mov (.tmp 5)), none⟩,
 ⟨some 23, (.iaddr 3 (.tmp 21) (.tmp 22)), none⟩,
 ⟨some 24, (.loadN 3 (.tmp 23)), none⟩,
 ⟨some 25, (.seq true [(0, true), (1, true), (2, true)] (.tmp 20) (.tmp 24)), none⟩] []) (.cond (.tmp 25) (.seq (.region [ 
 ⟨some 4, (.mov (.const (.bool false))), none⟩]) .ret) .skip))) (.region [ 
 ⟨some 15, (.mov (.tmp 5)), none⟩,
 ⟨some 16, (.bin .add (.tmp 15) (.const (.int .i64 1))), none⟩,
 ⟨some 5, (.mov (.tmp 16)), none⟩])))))) (.seq (.region [ 
 ⟨some 4, (.mov (.const (.bool true))), none⟩]) .ret)))), [(.tmp 4)]⟩
theorem ir38_ok : compFun Tryd.prog Tryd.f38 = some ir38 := by kernel_rfl

/- lockfast.tile.Right -/
def ir39 : IFun := ⟨45, (.seq (.region [ 
 ⟨some 2, (.mov (.const (.bool false))), none⟩]) (.seq (.region [ 
 ⟨some 9, (.mov (.tmp 0)), none⟩,
 ⟨some 10, (.call (.func 17) [(.tmp 9)]), none⟩,
 ⟨some 8, (.mov (.tmp 10)), none⟩,
 ⟨some 11, (.ext (.tmp 8) 0), none⟩,
 ⟨some 12, (.ext (.tmp 8) 1), none⟩,
 ⟨some 3, (.mov (.tmp 11)), none⟩,
 ⟨some 4, (.mov (.tmp 12)), none⟩]) (.seq (.region [ 
 ⟨some 5, (.mov (.const (.int .i64 0))), none⟩]) (.seq (.seq (.region [ 
 ⟨some 13, (.mov (.tmp 3)), none⟩,
 ⟨some 14, (.len (.tmp 13)), none⟩,
 ⟨some 15, (.mov (.const (.int .i64 0))), none⟩]) (.block 0 (.loop (.seq (.region [ 
 ⟨some 16, (.bin .lss (.tmp 15) (.tmp 14)), none⟩]) (.seq (.cond (.tmp 16) .skip (.exit 0)) (.seq (.block 1 (.seq (.region [ 
 ⟨some 17, (.iaddr 5 (.tmp 13) (.tmp 15)), none⟩,
 ⟨some 18, (.loadN 5 (.tmp 17)), none⟩,
 ⟨some 7, (.alloc 47 [(.int .i64 0), (.int .i64 0), (.int .i64 0), (.int .i64 0), (ub 0#64)]), none⟩,
 ⟨none, (.store 5 (.tmp 7) (.tmp 18)), none⟩]) (.block 2 (.seq (.region [ 
 ⟨some 20, (.faddr 0 (.tmp 7)), none⟩,
 ⟨some 21, (.load1 (.tmp 20)), none⟩,
 ⟨some 22, (.bin .eql (.tmp 21) (.const (.int .i64 3))), none⟩,
 ⟨some 23, (.mov (.tmp 5)), none⟩,
 ⟨some 24, (.bin .gtr (.tmp 23) (.const (.int .i64 0))), none⟩,
 ⟨some 25, (.beq true (.tmp 22) (.tmp 24)), none⟩,
 ⟨some 19, (.mov (.tmp 25)), none⟩]) (.cond (.tmp 19) (.seq (.region [ 
 ⟨some 2, (.mov (.const (.bool false))), none⟩]) .ret) (.seq (.region [ 
 ⟨some 27, (.faddr 0 (.tmp 7)), none⟩,
 ⟨some 28, (.load1 (.tmp 27)), none⟩,
 ⟨some 29, (.bin .eql (.tmp 28) (.const (.int .i64 3))), none⟩,
 ⟨some 26, (.mov (.tmp 29)), none⟩]) (.cond (.tmp 26) (.region [ 
 ⟨some 30, (.mov (.tmp 5)), none⟩,
 ⟨some 31, (.bin .sub (.tmp 30) (.const (.int .i64 1))), none⟩,
 ⟨some 5, (.mov (.tmp 31)), none⟩]) (.seq (.region [ 
 ⟨some 33, (.faddr 0 (.tmp 7)), none⟩,
 ⟨some 34, (.load1 (.tmp 33)), none⟩,
 ⟨some 35, (.bin .eql (.tmp 34) (.const (.int .i64 2))), none⟩,
 ⟨some 32, (.mov (.tmp 35)), none⟩]) (.cond (.tmp 32) (.region [ 
 ⟨some 36, (.faddr 3 (.tmp 7)), none⟩,
 ⟨some 37, (.load1 (.tmp 36)), none⟩,
 ⟨some 38, (.bin .sub (.tmp 37) (.const (.int .i64 1))), none⟩,
 ⟨some 5, (.mov (.tmp 38)), none⟩]) .skip))))))))) (.region [ 
 ⟨some 39, (.bin .add (.tmp 15) (.const (.int .i64 1))), none⟩,
 ⟨some 15, (.mov (.tmp 39)), none⟩]))))))) (.seq (.region [ 
 ⟨some 40, (.mov (.tmp 4)), none⟩,
 ⟨some 41, (.mov (.tmp 40)), none⟩,
 ⟨some 42, (.mov (.tmp 5)), (some (41, true))⟩,
 ⟨some 43, (.bin .eql (.tmp 42) (.const (.int .i64 0))), (some (41, true))⟩,
 ⟨some 44, (.pick (.tmp 41) (.tmp 43) (.const (.bool false))), none⟩,
 ⟨some 2, (.mov (.tmp 44)), none⟩]) .ret))))), [(.tmp 2)]⟩
theorem ir39_ok : compFun Tryd.prog Tryd.f39 = some ir39 := by kernel_rfl

/- lockfast.lockfastref09.Block -/
def ir40 : IFun := ⟨9, (.seq (.region [ 
 ⟨some 2, (.mov (.const (.int .i64 0))), none⟩]) (.seq (.seq (.region [ 
 ⟨some 3, (.mov (.tmp 0)), none⟩,
 ⟨some 4, (.bin .eql (.tmp 3) (.const (.int .i64 0))), none⟩]) (.cond (.tmp 4) (.seq (.region [ 
 ⟨some 2, (.mov (.const (.int .i64 4))), none⟩]) .ret) .skip)) (.seq (.seq (.region [ 
 ⟨some 5, (.mov (.tmp 0)), none⟩,
 ⟨some 6, (.bin .eql (.tmp 5) (.const (.int .i64 1))), none⟩]) (.cond (.tmp 6) (.seq (.region [ 
 ⟨some 2, (.mov (.const (.int .i64 8))), none⟩]) .ret) .skip)) (.seq (.seq (.region [ 
 ⟨some 7, (.mov (.tmp 0)), none⟩,
 ⟨some 8, (.bin .eql (.tmp 7) (.const (.int .i64 2))), none⟩]) (.cond (.tmp 8) (.seq (.region [ 
 ⟨some 2, (.mov (.const (.int .i64 16))), none⟩]) .ret) .skip)) (.seq (.region [ 
 ⟨some 2, (.mov (.const (.int .i64 0))), none⟩]) .ret))))), [(.tmp 2)]⟩
theorem ir40_ok : compFun Tryd.prog Tryd.f40 = some ir40 := by kernel_rfl

/- lockfast.lockfastref10.Encode -/
def ir41 : IFun := ⟨31, (.seq (.region [ 
 ⟨some 1, (.box 47 (.tmp 0)), none⟩,
 ⟨some 2, (.mov (.const (ub 0#64))), none⟩,
 ⟨some 3, (.mov (.const (.int .i64 0))), none⟩]) (.seq (.region [ 
 ⟨some 5, (.loadN 5 (.tmp 1)), none⟩,
 ⟨some 6, (.call (.func 63) [(.tmp 5)]), none⟩,
 ⟨some 4, (.mov (.tmp 6)), none⟩]) (.seq (.seq (.region [ 
 ⟨some 7, (.mov (.tmp 4)), none⟩,
 ⟨some 8, (.un .not (.tmp 7)), none⟩]) (.cond (.tmp 8) (.seq (.region [ 
 ⟨some 2, (.mov (.const (ub 0#64))), none⟩,
 ⟨some 3, (.mov (.const (.int .i64 1))), none⟩]) .ret) .skip)) (.seq (.region [ 
 ⟨some 9, (.faddr 0 (.tmp 1)), none⟩,
 ⟨some 10, (.load1 (.tmp 9)), none⟩,
 ⟨some 11, (.conv .u64 (.tmp 10)), none⟩,
 ⟨some 12, (.faddr 1 (.tmp 1)), none⟩,
 ⟨some 13, (.load1 (.tmp 12)), none⟩,
 ⟨some 14, (.conv .u64 (.tmp 13)), none⟩,
 ⟨some 15, (.bin .mul (.const (ub 8#64)) (.tmp 14)), none⟩,
 ⟨some 16, (.bin .add (.tmp 11) (.tmp 15)), none⟩,
 ⟨some 17, (.faddr 2 (.tmp 1)), none⟩,
 ⟨some 18, (.load1 (.tmp 17)), none⟩,
 ⟨some 19, (.conv .u64 (.tmp 18)), none⟩,
 ⟨some 20, (.bin .mul (.const (ub 32#64)) (.tmp 19)), none⟩,
 ⟨some 21, (.bin .add (.tmp 16) (.tmp 20)), none⟩,
 ⟨some 22, (.faddr 3 (.tmp 1)), none⟩,
 ⟨some 23, (.load1 (.tmp 22)), none⟩,
 ⟨some 24, (.conv .u64 (.tmp 23)), none⟩,
 ⟨some 25, (.bin .mul (.const (ub 2048#64)) (.tmp 24)), none⟩,
 ⟨some 26, (.bin .add (.tmp 21) (.tmp 25)), none⟩,
 ⟨some 27, (.faddr 4 (.tmp 1)), none⟩,
 ⟨some 28, (.load1 (.tmp 27)), none⟩,
 ⟨some 29, (.bin .mul (.const (ub 16777216#64)) (.tmp 28)), none⟩,
 ⟨some 30, (.bin .add (.tmp 26) (.tmp 29)), none⟩,
 ⟨some 2, (.mov (.tmp 30)), none⟩,
 ⟨some 3, (.mov (.const (.int .i64 0))), none⟩]) .ret)))), [(.tmp 2), (.tmp 3)]⟩
theorem ir41_ok : compFun Tryd.prog Tryd.f41 = some ir41 := by kernel_rfl

/- lockfast.class.Of -/
def ir42 : IFun := ⟨19, (.seq (.region [ 
 ⟨some 2, (.mov (.const (.int .i64 0))), none⟩]) (.seq (.seq (.region [ 
 ⟨some 5, (.mov (.tmp 0)), none⟩,
 ⟨some 6, (.call (.func 43) [(.tmp 5)]), none⟩,
 ⟨some 7, (.un .not (.tmp 6)), none⟩]) (.cond (.tmp 7) (.seq (.region [ 
 ⟨some 2, (.mov (.const (.int .i64 (-1)))), none⟩]) .ret) .skip)) (.seq (.seq (.region [ 
 ⟨some 8, (.loadN 3 (.global 0)), none⟩,
 ⟨some 9, (.mov (.const (.int .i64 0))), none⟩]) (.block 0 (.loop (.seq (.region [ 
 ⟨some 10, (.bin .lss (.tmp 9) (.const (.int .i64 3))), none⟩]) (.seq (.cond (.tmp 10) .skip (.exit 0)) (.seq (.block 1 (.seq (.region [ 
 ⟨some 11, (.mov (.tmp 9)), none⟩,
 ⟨some 12, (.idx1 3 1 (.tmp 8) (.tmp 9)), none⟩,
 ⟨some 3, (.mov (.tmp 11)), none⟩,
 ⟨some 4, (.mov (.tmp 12)), none⟩]) (.seq (.region [ 
 ⟨some 13, (.mov (.tmp 0)), none⟩,
 ⟨some 14, (.call (.func 64) [(.tmp 13)]), none⟩,
 ⟨some 15, (.mov (.tmp 4)), none⟩,
 ⟨some 16, (.bin .leq (.tmp 14) (.tmp 15)), none⟩]) (.cond (.tmp 16) (.seq (.region [ 
 ⟨some 17, (.mov (.tmp 3)), none⟩,
 ⟨some 2, (.mov (.tmp 17)), none⟩]) .ret) .skip)))) (.region [ 
 ⟨some 18, (.bin .add (.tmp 9) (.const (.int .i64 1))), none⟩,
 ⟨some 9, (.mov (.tmp 18)), none⟩]))))))) (.seq (.region [ 
 ⟨some 2, (.mov (.const (.int .i64 (-1)))), none⟩]) .ret)))), [(.tmp 2)]⟩
theorem ir42_ok : compFun Tryd.prog Tryd.f42 = some ir42 := by kernel_rfl

/- lockfast.class.Right -/
def ir43 : IFun := ⟨9, (.seq (.region [ 
 ⟨some 2, (.mov (.const (.bool false))), none⟩]) (.seq (.region [ 
 ⟨some 3, (.mov (.tmp 0)), none⟩,
 ⟨some 4, (.bin .geq (.tmp 3) (.const (.int .i64 0))), none⟩,
 ⟨some 5, (.mov (.tmp 4)), none⟩,
 ⟨some 6, (.mov (.tmp 0)), (some (5, true))⟩,
 ⟨some 7, (.bin .leq (.tmp 6) (.const (.int .i64 4096))), (some (5, true))⟩,
 ⟨some 8, (.pick (.tmp 5) (.tmp 7) (.const (.bool false))), none⟩,
 ⟨some 2, (.mov (.tmp 8)), none⟩]) .ret)), [(.tmp 2)]⟩
theorem ir43_ok : compFun Tryd.prog Tryd.f43 = some ir43 := by kernel_rfl

/- (*lockfast.index.Index).small -/
def ir44 : IFun := ⟨52, (.seq (.region [ 
 ⟨some 2, (.box 25 (.tmp 0)), none⟩,
 ⟨some 3, (.box 3 (.tmp 1)), none⟩,
 ⟨some 4, (.alloc 30 [(.int .i64 0), (.int .i64 0), (.int .i64 0), (.int .i64 0), (.bool false)]), none⟩,
 ⟨some 5, (.alloc 31 [(.int .i64 0)]), none⟩]) (.seq (.seq (.region [ 
 ⟨some 10, (.load1 (.tmp 2)), none⟩,
 ⟨some 11, (.load1 (.tmp 3)), none⟩,
 ⟨some 12, (.call (.func 65) [(.tmp 10), (.tmp 11)]), none⟩]) (.block 0 (.rangeF (.tmp 12) [13, 14] (.seq (.region [ 
 ⟨some 6, (.mov (.tmp 13)), none⟩]) (.region [ 
 ⟨some 7, (.mov (.tmp 14)), none⟩])) (.block 1 (.seq (.draw [ 
 ⟨some 15, (.load1 (.tmp 2)), none⟩,
 ⟨some 16, (.nilck (.tmp 15)), none⟩,
 ⟨some 17, (.faddr 0 (.tmp 16)), none⟩,
 ⟨some 18, (.load1 (.tmp 17)), none⟩,
 ⟨some 19, (.mov (.tmp 6)), none⟩,
 ⟨some 20, (.iaddr 6 (.tmp 18) (.tmp 19)), none⟩,
 ⟨some 21, (.faddr 5 (.tmp 20)), none⟩,
 ⟨some 22, (.load1 (.tmp 21)), none⟩,
 ⟨some 23, (.mov (.tmp 7)), none⟩,
 ⟨some 24, (.bin .shl (.const (ub 1#64)) (.tmp 23)), none⟩,
 ⟨some 25, (.bin .or (.tmp 22) (.tmp 24)), none⟩,
 ⟨some 26, (.iaddr 6 (.tmp 18) (.tmp 19)), none⟩,
 ⟨some 27, (.faddr 5 (.tmp 26)), none⟩,
 ⟨none, (.store 1 (.tmp 27) (.tmp 25)), none⟩] []) (.seq (.region [ 
 ⟨some 28, (.mov (.tmp 6)), none⟩,
 ⟨some 29, (.mov (.tmp 7)), none⟩,
 ⟨some 30, (.load1 (.tmp 3)), none⟩,
 ⟨some 31, (.build [(.int .i64 0), (.int .i64 0), (.int .i64 0), (.int .i64 0), (.bool false)] [(0, (1, (.tmp 28))), (1, (1, (.tmp 29))), (2, (1, (.tmp 30)))]), none⟩,
 ⟨none, (.store 5 (.tmp 4) (.tmp 31)), none⟩,
 ⟨none, (.store 1 (.tmp 5) (.const (.int .i64 0))), none⟩]) .ret)))))) (.seq (.region [ 
 ⟨some 33, (.load1 (.tmp 2)), none⟩,
 ⟨some 34, (.call (.func 58) [(.tmp 33), (.const (.int .i64 1))]), none⟩,
 ⟨some 32, (.mov (.tmp 34)), none⟩,
 ⟨some 35, (.ext (.tmp 32) 0), none⟩,
 ⟨some 36, (.ext (.tmp 32) 1), none⟩,
 ⟨some 8, (.mov (.tmp 35)), none⟩,
 ⟨some 9, (.mov (.tmp 36)), none⟩]) (.seq (.seq (.region [ 
 ⟨some 37, (.mov (.tmp 9)), none⟩,
 ⟨some 38, (.un .not (.tmp 37)), none⟩]) (.cond (.tmp 38) (.seq (.region [ 
 ⟨some 39, (.build [(.int .i64 0), (.int .i64 0), (.int .i64 0), (.int .i64 0), (.bool false)] []), none⟩,
 ⟨none, (.store 5 (.tmp 4) (.tmp 39)), none⟩,
 ⟨none, (.store 1 (.tmp 5) (.const (.int .i64 2))), none⟩]) .ret) .skip)) (.seq (.draw [ 
 ⟨some 40, (.load1 (.tmp 2)), none⟩,
 ⟨some 41, (.nilck (.tmp 40)), none⟩,
 ⟨some 42, (.faddr 0 (.tmp 41)), none⟩,
 ⟨some 43, (.load1 (.tmp 42)), none⟩,
 ⟨some 44, (.mov (.tmp 8)), none⟩,
 ⟨some 45, (.load1 (.tmp 3)), none⟩,
 ⟨some 46, (.build [(.int .i64 0), (.int .i64 0), (.int .i64 0), (.int .i64 0), (ub 0#64)] [(0, (1, (.const (.int .i64 1)))), (1, (1, (.tmp 45)))]), none⟩,
 ⟨some 47, (.build [(.int .i64 0), (.int .i64 0), (.int .i64 0), (.int .i64 0), (ub 0#64), (ub 0#64)] [(0, (5, (.tmp 46))), (5, (1, (.const (ub 1#64))))]), none⟩,
 ⟨some 48, (.iaddr 6 (.tmp 43) (.tmp 44)), none⟩,
 ⟨none, (.store 6 (.tmp 48) (.tmp 47)), none⟩] []) (.seq (.region [ 
 ⟨some 49, (.mov (.tmp 8)), none⟩,
 ⟨some 50, (.load1 (.tmp 3)), none⟩,
 ⟨some 51, (.build [(.int .i64 0), (.int .i64 0), (.int .i64 0), (.int .i64 0), (.bool false)] [(0, (1, (.tmp 49))), (2, (1, (.tmp 50))), (4, (1, (.const (.bool true))))]), none⟩,
 ⟨none, (.store 5 (.tmp 4) (.tmp 51)), none⟩,
 ⟨none, (.store 1 (.tmp 5) (.const (.int .i64 0))), none⟩]) .ret)))))), [(.cellN 5 4), (.cell1 5)]⟩
theorem ir44_ok : compFun Tryd.prog Tryd.f44 = some ir44 := by kernel_rfl

/- (*lockfast.index.Index).large -/
def ir45 : IFun := ⟨45, (.seq (.region [ 
 ⟨some 4, (.alloc 30 [(.int .i64 0), (.int .i64 0), (.int .i64 0), (.int .i64 0), (.bool false)]), none⟩,
 ⟨some 5, (.mov (.const (.int .i64 0))), none⟩]) (.seq (.region [ 
 ⟨some 10, (.mov (.tmp 0)), none⟩,
 ⟨some 11, (.mov (.tmp 1)), none⟩,
 ⟨some 12, (.call (.func 58) [(.tmp 10), (.tmp 11)]), none⟩,
 ⟨some 9, (.mov (.tmp 12)), none⟩,
 ⟨some 13, (.ext (.tmp 9) 0), none⟩,
 ⟨some 14, (.ext (.tmp 9) 1), none⟩,
 ⟨some 6, (.mov (.tmp 13)), none⟩,
 ⟨some 7, (.mov (.tmp 14)), none⟩]) (.seq (.seq (.region [ 
 ⟨some 15, (.mov (.tmp 7)), none⟩,
 ⟨some 16, (.un .not (.tmp 15)), none⟩]) (.cond (.tmp 16) (.seq (.region [ 
 ⟨some 17, (.build [(.int .i64 0), (.int .i64 0), (.int .i64 0), (.int .i64 0), (.bool false)] []), none⟩,
 ⟨none, (.store 5 (.tmp 4) (.tmp 17)), none⟩,
 ⟨some 5, (.mov (.const (.int .i64 2))), none⟩]) .ret) .skip)) (.seq (.seq (.region [ 
 ⟨some 18, (.mov (.tmp 1)), none⟩,
 ⟨some 19, (.mov (.const (.int .i64 0))), none⟩]) (.block 0 (.loop (.seq (.region [ 
 ⟨some 20, (.bin .lss (.tmp 19) (.tmp 18)), none⟩]) (.seq (.cond (.tmp 20) .skip (.exit 0)) (.seq (.block 1 (.seq (.region [ 
 ⟨some 21, (.mov (.tmp 19)), none⟩,
 ⟨some 8, (.mov (.tmp 21)), none⟩]) (.region [ 
 ⟨some 22, (.mov (.tmp 0)), none⟩,
 ⟨some 23, (.nilck (.tmp 22)), none⟩,
 ⟨some 24, (.faddr 0 (.tmp 23)), none⟩,
 ⟨some 25, (.load1 (.tmp 24)), none⟩,
 ⟨some 26, (.mov (.tmp 6)), none⟩,
 ⟨some 27, (.mov (.tmp 8)), none⟩,
 ⟨some 28, (.bin .add (.tmp 26) (.tmp 27)), none⟩,
 ⟨some 29, (.build [(.int .i64 0), (.int .i64 0), (.int .i64 0), (.int .i64 0), (ub 0#64)] [(0, (1, (.const (.int .i64 3))))]), none⟩,
 ⟨some 30, (.build [(.int .i64 0), (.int .i64 0), (.int .i64 0), (.int .i64 0), (ub 0#64), (ub 0#64)] [(0, (5, (.tmp 29)))]), none⟩,
 ⟨some 31, (.iaddr 6 (.tmp 25) (.tmp 28)), none⟩,
 ⟨none, (.store 6 (.tmp 31) (.tmp 30)), none⟩]))) (.region [ 
 ⟨some 32, (.bin .add (.tmp 19) (.const (.int .i64 1))), none⟩,
 ⟨some 19, (.mov (.tmp 32)), none⟩]))))))) (.seq (.region [ 
 ⟨some 33, (.mov (.tmp 0)), none⟩,
 ⟨some 34, (.nilck (.tmp 33)), none⟩,
 ⟨some 35, (.faddr 0 (.tmp 34)), none⟩,
 ⟨some 36, (.load1 (.tmp 35)), none⟩,
 ⟨some 37, (.mov (.tmp 6)), none⟩,
 ⟨some 38, (.mov (.tmp 1)), none⟩,
 ⟨some 39, (.build [(.int .i64 0), (.int .i64 0), (.int .i64 0), (.int .i64 0), (ub 0#64)] [(0, (1, (.const (.int .i64 2)))), (3, (1, (.tmp 38)))]), none⟩,
 ⟨some 40, (.build [(.int .i64 0), (.int .i64 0), (.int .i64 0), (.int .i64 0), (ub 0#64), (ub 0#64)] [(0, (5, (.tmp 39))), (5, (1, (.const (ub 1#64))))]), none⟩,
 ⟨some 41, (.iaddr 6 (.tmp 36) (.tmp 37)), none⟩,
 ⟨none, (.store 6 (.tmp 41) (.tmp 40)), none⟩]) (.seq (.region [ 
 ⟨some 42, (.mov (.tmp 6)), none⟩,
 ⟨some 43, (.mov (.tmp 1)), none⟩,
 ⟨some 44, (.build [(.int .i64 0), (.int .i64 0), (.int .i64 0), (.int .i64 0), (.bool false)] [(0, (1, (.tmp 42))), (2, (1, (.const (.int .i64 (-1))))), (3, (1, (.tmp 43)))]), none⟩,
 ⟨none, (.store 5 (.tmp 4) (.tmp 44)), none⟩,
 ⟨some 5, (.mov (.const (.int .i64 0))), none⟩]) .ret)))))), [(.cellN 5 4), (.tmp 5)]⟩
theorem ir45_ok : compFun Tryd.prog Tryd.f45 = some ir45 := by kernel_rfl

/- lockfast.class.Chunks -/
def ir46 : IFun := ⟨16, (.seq (.region [ 
 ⟨some 2, (.mov (.const (.int .i64 0))), none⟩]) (.seq (.seq (.region [ 
 ⟨some 3, (.mov (.tmp 0)), none⟩,
 ⟨some 4, (.call (.func 43) [(.tmp 3)]), none⟩,
 ⟨some 5, (.un .not (.tmp 4)), none⟩,
 ⟨some 6, (.mov (.tmp 5)), none⟩,
 ⟨some 7, (.mov (.tmp 0)), (some (6, false))⟩,
 ⟨some 8, (.call (.func 42) [(.tmp 7)]), (some (6, false))⟩,
 ⟨some 9, (.bin .geq (.tmp 8) (.const (.int .i64 0))), (some (6, false))⟩,
 ⟨some 10, (.pick (.tmp 6) (.const (.bool true)) (.tmp 9)), none⟩]) (.cond (.tmp 10) (.seq (.region [ 
 ⟨some 2, (.mov (.const (.int .i64 0))), none⟩]) .ret) .skip)) (.seq (.region [ 
 ⟨some 11, (.mov (.tmp 0)), none⟩,
 ⟨some 12, (.call (.func 64) [(.tmp 11)]), none⟩,
 ⟨some 13, (.bin .add (.tmp 12) (.const (.int .i64 32))), none⟩,
 ⟨some 14, (.bin .sub (.tmp 13) (.const (.int .i64 1))), none⟩,
 ⟨some 15, (.bin .quo (.tmp 14) (.const (.int .i64 32))), none⟩,
 ⟨some 2, (.mov (.tmp 15)), none⟩]) .ret))), [(.tmp 2)]⟩
theorem ir46_ok : compFun Tryd.prog Tryd.f46 = some ir46 := by kernel_rfl

/- (*lockfast.index.Index).at -/
def ir47 : IFun := ⟨90, (.seq (.region [ 
 ⟨some 3, (.box 30 (.tmp 1)), none⟩,
 ⟨some 4, (.mov (.const (.pointer none))), none⟩,
 ⟨some 5, (.mov (.const (ub 0#64))), none⟩]) (.seq (.seq (.draw [ 
 ⟨some 7, (.faddr 0 (.tmp 3)), none⟩,
 ⟨some 8, (.load1 (.tmp 7)), none⟩,
 ⟨some 9, (.bin .lss (.tmp 8) (.const (.int .i64 0))), none⟩,
 ⟨some 10, (.mov (.tmp 9)), none⟩,
 ⟨some 11, (.faddr 0 (.tmp 3)), (some (10, false))⟩,
 ⟨some 12, (.load1 (.tmp 11)), (some (10, false))⟩,
 ⟨some 13, (.mov (.tmp 0)), (some (10, false))⟩,
 ⟨some 14, (.nilck (.tmp 13)), (some (10, false))⟩,
 ⟨some 15, (.faddr 0 (.tmp 14)), (some (10, false))⟩,
 ⟨some 16, (.load1 (.tmp 15)), (some (10, false))⟩,
 ⟨some 17, (.len (.tmp 16)), (some (10, false))⟩,
 ⟨some 18, (.bin .geq (.tmp 12) (.tmp 17)), (some (10, false))⟩,
 ⟨some 19, (.pick (.tmp 10) (.const (.bool true)) (.tmp 18)), none⟩] []) (.cond (.tmp 19) (.seq (.region [ 
 ⟨some 4, (.mov (.const (.pointer none))), none⟩,
 ⟨some 5, (.mov (.const (ub 0#64))), none⟩]) .ret) .skip)) (.seq (.draw [ 
 ⟨some 20, (.mov (.tmp 0)), none⟩,
 ⟨some 21, (.nilck (.tmp 20)), none⟩,
 ⟨some 22, (.faddr 0 (.tmp 21)), none⟩,
 ⟨some 23, (.load1 (.tmp 22)), none⟩,
 ⟨some 24, (.faddr 0 (.tmp 3)), none⟩,
 ⟨some 25, (.load1 (.tmp 24)), none⟩,
 ⟨some 26, (.iaddr 6 (.tmp 23) (.tmp 25)), none⟩,
 ⟨some 6, (.mov (.tmp 26)), none⟩] []) (.seq (.block 0 (.seq (.region [ 
 ⟨some 28, (.faddr 2 (.tmp 3)), none⟩,
 ⟨some 29, (.load1 (.tmp 28)), none⟩,
 ⟨some 30, (.bin .eql (.tmp 29) (.const (.int .i64 (-1)))), none⟩,
 ⟨some 27, (.mov (.tmp 30)), none⟩]) (.cond (.tmp 27) (.seq (.seq (.draw [ 
 ⟨some 31, (.mov (.tmp 6)), none⟩,
 ⟨some 32, (.nilck (.tmp 31)), none⟩,
 ⟨some 33, (.faddr 0 (.tmp 32)), none⟩,
 ⟨some 34, (.faddr 0 (.tmp 33)), none⟩,
 ⟨some 35, (.load1 (.tmp 34)), none⟩,
 ⟨some 36, (.bin .neq (.tmp 35) (.const (.int .i64 2))), none⟩,
 ⟨some 37, (.mov (.tmp 36)), none⟩,
 ⟨some 38, (.mov (.tmp 6)), (some (37, false))⟩,
 ⟨some 39, (.nilck (.tmp 38)), (some (37, false))⟩,
 ⟨some 40, (.faddr 0 (.tmp 39)), (some (37, false))⟩,
 ⟨some 41, (.faddr 3 (.tmp 40)), (some (37, false))⟩,
 ⟨some 42, (.load1 (.tmp 41)), (some (37, false))⟩,
 ⟨some 43, (.faddr 3 (.tmp 3)), (some (37, false))⟩,
 ⟨some 44, (.load1 (.tmp 43)), (some (37, false))⟩,
 ⟨some 45, (.bin .neq (.tmp 42) (.tmp 44)), (some (37, false))⟩,
 ⟨some 46, (.pick (.tmp 37) (.const (.bool true)) (.tmp 45)), none⟩,
 ⟨some 47, (.mov (.tmp 46)), none⟩,
 ⟨some 48, (.faddr 1 (.tmp 3)), (some (47, false))⟩,
 ⟨some 49, (.load1 (.tmp 48)), (some (47, false))⟩,
 ⟨some 50, (.bin .neq (.tmp 49) (.const (.int .i64 0))), (some (47, false))⟩,
 ⟨some 51, (.pick (.tmp 47) (.const (.bool true)) (.tmp 50)), none⟩] []) (.cond (.tmp 51) (.seq (.region [ 
 ⟨some 4, (.mov (.const (.pointer none))), none⟩,
 ⟨some 5, (.mov (.const (ub 0#64))), none⟩]) .ret) .skip)) (.seq (.region [ 
 ⟨some 52, (.mov (.tmp 6)), none⟩,
 ⟨some 4, (.mov (.tmp 52)), none⟩,
 ⟨some 5, (.mov (.const (ub 1#64))), none⟩]) .ret)) (.seq (.draw [ 
 ⟨some 54, (.mov (.tmp 6)), none⟩,
 ⟨some 55, (.nilck (.tmp 54)), none⟩,
 ⟨some 56, (.faddr 0 (.tmp 55)), none⟩,
 ⟨some 57, (.faddr 0 (.tmp 56)), none⟩,
 ⟨some 58, (.load1 (.tmp 57)), none⟩,
 ⟨some 59, (.bin .neq (.tmp 58) (.const (.int .i64 1))), none⟩,
 ⟨some 60, (.mov (.tmp 59)), none⟩,
 ⟨some 61, (.mov (.tmp 6)), (some (60, false))⟩,
 ⟨some 62, (.nilck (.tmp 61)), (some (60, false))⟩,
 ⟨some 63, (.faddr 0 (.tmp 62)), (some (60, false))⟩,
 ⟨some 64, (.faddr 1 (.tmp 63)), (some (60, false))⟩,
 ⟨some 65, (.load1 (.tmp 64)), (some (60, false))⟩,
 ⟨some 66, (.faddr 2 (.tmp 3)), (some (60, false))⟩,
 ⟨some 67, (.load1 (.tmp 66)), (some (60, false))⟩,
 ⟨some 68, (.bin .neq (.tmp 65) (.tmp 67)), (some (60, false))⟩,
 ⟨some 69, (.pick (.tmp 60) (.const (.bool true)) (.tmp 68)), none⟩,
 ⟨some 70, (.mov (.tmp 69)), none⟩,
 ⟨some 71, (.faddr 1 (.tmp 3)), (some (70, false))⟩,
 ⟨some 72, (.load1 (.tmp 71)), (some (70, false))⟩,
 ⟨some 73, (.bin .lss (.tmp 72) (.const (.int .i64 0))), (some (70, false))⟩,
 ⟨some 74, (.pick (.tmp 70) (.const (.bool true)) (.tmp 73)), none⟩,
 ⟨some 75, (.mov (.tmp 74)), none⟩,
 ⟨some 76, (.faddr 1 (.tmp 3)), (some (75, false))⟩,
 ⟨some 77, (.load1 (.tmp 76)), (some (75, false))⟩,
 ⟨some 78, (.mov (.tmp 6)), (some (75, false))⟩,
 ⟨some 79, (.nilck (.tmp 78)), (some (75, false))⟩,
 ⟨some 80, (.faddr 0 (.tmp 79)), (some (75, false))⟩,
 ⟨some 81, (.faddr 1 (.tmp 80)), (some (75, false))⟩,
 ⟨some 82, (.load1 (.tmp 81)), (some (75, false))⟩,
 ⟨some 83, (.call (.func 66) [(.tmp 82)]), (some (75, false))⟩,
 ⟨some 84, (.bin .geq (.tmp 77) (.tmp 83)), (some (75, false))⟩,
 ⟨some 85, (.pick (.tmp 75) (.const (.bool true)) (.tmp 84)), none⟩,
 ⟨some 53, (.mov (.tmp 85)), none⟩] [(29, 23)]) (.cond (.tmp 53) (.seq (.region [ 
 ⟨some 4, (.mov (.const (.pointer none))), none⟩,
 ⟨some 5, (.mov (.const (ub 0#64))), none⟩]) .ret) .skip))))) (.seq (.draw [ 
 ⟨some 86, (.mov (.tmp 6)), none⟩,
 ⟨some 87, (.faddr 1 (.tmp 3)), none⟩,
 ⟨some 88, (.load1 (.tmp 87)), none⟩,
 ⟨some 89, (.bin .shl (.const (ub 1#64)) (.tmp 88)), none⟩,
 ⟨some 4, (.mov (.tmp 86)), none⟩,
 ⟨some 5, (.mov (.tmp 89)), none⟩] []) .ret))))), [(.tmp 4), (.tmp 5)]⟩
theorem ir47_ok : compFun Tryd.prog Tryd.f47 = some ir47 := by kernel_rfl

/- (*lockfast.index.Index).gone -/
def ir48 : IFun := ⟨24, (.seq (.region [ 
 ⟨some 3, (.box 30 (.tmp 1)), none⟩]) (.seq (.seq (.region [ 
 ⟨some 5, (.faddr 2 (.tmp 3)), none⟩,
 ⟨some 6, (.load1 (.tmp 5)), none⟩,
 ⟨some 7, (.bin .neq (.tmp 6) (.const (.int .i64 (-1)))), none⟩]) (.cond (.tmp 7) .ret .skip)) (.seq (.region [ 
 ⟨some 8, (.faddr 3 (.tmp 3)), none⟩,
 ⟨some 9, (.load1 (.tmp 8)), none⟩,
 ⟨some 10, (.mov (.const (.int .i64 0))), none⟩]) (.block 0 (.loop (.seq (.region [ 
 ⟨some 11, (.bin .lss (.tmp 10) (.tmp 9)), none⟩]) (.seq (.cond (.tmp 11) .skip (.exit 0)) (.seq (.block 1 (.seq (.region [ 
 ⟨some 12, (.mov (.tmp 10)), none⟩,
 ⟨some 4, (.mov (.tmp 12)), none⟩]) (.draw [ 
 ⟨some 13, (.mov (.tmp 0)), none⟩,
 ⟨some 14, (.nilck (.tmp 13)), none⟩,
 ⟨some 15, (.faddr 0 (.tmp 14)), none⟩,
 ⟨some 16, (.load1 (.tmp 15)), none⟩,
 ⟨some 17, (.faddr 0 (.tmp 3)), none⟩,
 ⟨some 18, (.load1 (.tmp 17)), none⟩,
 ⟨some 19, (.mov (.tmp 4)), none⟩,
 ⟨some 20, (.bin .add (.tmp 18) (.tmp 19)), none⟩,
 ⟨some 21, (.build [(.int .i64 0), (.int .i64 0), (.int .i64 0), (.int .i64 0), (ub 0#64), (ub 0#64)] []), none⟩,
 ⟨some 22, (.iaddr 6 (.tmp 16) (.tmp 20)), none⟩,
 ⟨none, (.store 6 (.tmp 22) (.tmp 21)), none⟩] []))) (.region [ 
 ⟨some 23, (.bin .add (.tmp 10) (.const (.int .i64 1))), none⟩,
 ⟨some 10, (.mov (.tmp 23)), none⟩]))))))))), []⟩
theorem ir48_ok : compFun Tryd.prog Tryd.f48 = some ir48 := by kernel_rfl

/- lockfast.chunk.Empty -/
def ir49 : IFun := ⟨11, (.seq (.region [ 
 ⟨some 1, (.box 47 (.tmp 0)), none⟩,
 ⟨some 2, (.mov (.const (.bool false))), none⟩]) (.seq (.region [ 
 ⟨some 3, (.faddr 0 (.tmp 1)), none⟩,
 ⟨some 4, (.load1 (.tmp 3)), none⟩,
 ⟨some 5, (.bin .eql (.tmp 4) (.const (.int .i64 1))), none⟩,
 ⟨some 6, (.mov (.tmp 5)), none⟩,
 ⟨some 7, (.faddr 4 (.tmp 1)), (some (6, true))⟩,
 ⟨some 8, (.load1 (.tmp 7)), (some (6, true))⟩,
 ⟨some 9, (.bin .eql (.tmp 8) (.const (ub 0#64))), (some (6, true))⟩,
 ⟨some 10, (.pick (.tmp 6) (.tmp 9) (.const (.bool false))), none⟩,
 ⟨some 2, (.mov (.tmp 10)), none⟩]) .ret)), [(.tmp 2)]⟩
theorem ir49_ok : compFun Tryd.prog Tryd.f49 = some ir49 := by kernel_rfl

/- lockfast.chunk.Encode -/
def ir50 : IFun := ⟨9, (.seq (.region [ 
 ⟨some 1, (.box 47 (.tmp 0)), none⟩,
 ⟨some 2, (.mov (.const (ub 0#64))), none⟩,
 ⟨some 3, (.mov (.const (.int .i64 0))), none⟩]) (.seq (.seq (.region [ 
 ⟨some 4, (.loadN 5 (.tmp 1)), none⟩,
 ⟨some 5, (.call (.func 57) [(.tmp 4)]), none⟩,
 ⟨some 6, (.un .not (.tmp 5)), none⟩]) (.cond (.tmp 6) (.seq (.region [ 
 ⟨some 2, (.mov (.const (ub 0#64))), none⟩,
 ⟨some 3, (.mov (.const (.int .i64 1))), none⟩]) .ret) .skip)) (.seq (.region [ 
 ⟨some 7, (.loadN 5 (.tmp 1)), none⟩,
 ⟨some 8, (.call (.func 67) [(.tmp 7)]), none⟩,
 ⟨some 2, (.mov (.tmp 8)), none⟩,
 ⟨some 3, (.mov (.const (.int .i64 0))), none⟩]) .ret))), [(.tmp 2), (.tmp 3)]⟩
theorem ir50_ok : compFun Tryd.prog Tryd.f50 = some ir50 := by kernel_rfl

/- lockfast.chunk.Decode -/
def ir51 : IFun := ⟨36, (.seq (.region [ 
 ⟨some 2, (.alloc 47 [(.int .i64 0), (.int .i64 0), (.int .i64 0), (.int .i64 0), (ub 0#64)]), none⟩,
 ⟨some 3, (.mov (.const (.bool false))), none⟩]) (.seq (.region [ 
 ⟨some 5, (.call (.func 68) []), none⟩,
 ⟨some 6, (.mov (.tmp 0)), none⟩,
 ⟨some 7, (.call (.func 69) [(.tmp 5), (.tmp 6)]), none⟩,
 ⟨some 8, (.conv .i64 (.tmp 7)), none⟩,
 ⟨some 9, (.call (.func 70) []), none⟩,
 ⟨some 10, (.mov (.tmp 0)), none⟩,
 ⟨some 11, (.call (.func 69) [(.tmp 9), (.tmp 10)]), none⟩,
 ⟨some 12, (.conv .i64 (.tmp 11)), none⟩,
 ⟨some 13, (.call (.func 71) []), none⟩,
 ⟨some 14, (.mov (.tmp 0)), none⟩,
 ⟨some 15, (.call (.func 69) [(.tmp 13), (.tmp 14)]), none⟩,
 ⟨some 16, (.conv .i64 (.tmp 15)), none⟩,
 ⟨some 17, (.call (.func 72) []), none⟩,
 ⟨some 18, (.mov (.tmp 0)), none⟩,
 ⟨some 19, (.call (.func 69) [(.tmp 17), (.tmp 18)]), none⟩,
 ⟨some 20, (.conv .i64 (.tmp 19)), none⟩,
 ⟨some 21, (.call (.func 73) []), none⟩,
 ⟨some 22, (.mov (.tmp 0)), none⟩,
 ⟨some 23, (.call (.func 69) [(.tmp 21), (.tmp 22)]), none⟩,
 ⟨some 24, (.build [(.int .i64 0), (.int .i64 0), (.int .i64 0), (.int .i64 0), (ub 0#64)] [(0, (1, (.tmp 8))), (1, (1, (.tmp 12))), (2, (1, (.tmp 16))), (3, (1, (.tmp 20))), (4, (1, (.tmp 23)))]), none⟩,
 ⟨some 4, (.alloc 47 [(.int .i64 0), (.int .i64 0), (.int .i64 0), (.int .i64 0), (ub 0#64)]), none⟩,
 ⟨none, (.store 5 (.tmp 4) (.tmp 24)), none⟩]) (.seq (.seq (.region [ 
 ⟨some 25, (.loadN 5 (.tmp 4)), none⟩,
 ⟨some 26, (.call (.func 57) [(.tmp 25)]), none⟩,
 ⟨some 27, (.un .not (.tmp 26)), none⟩,
 ⟨some 28, (.mov (.tmp 27)), none⟩,
 ⟨some 29, (.loadN 5 (.tmp 4)), (some (28, false))⟩,
 ⟨some 30, (.call (.func 67) [(.tmp 29)]), (some (28, false))⟩,
 ⟨some 31, (.mov (.tmp 0)), (some (28, false))⟩,
 ⟨some 32, (.bin .neq (.tmp 30) (.tmp 31)), (some (28, false))⟩,
 ⟨some 33, (.pick (.tmp 28) (.const (.bool true)) (.tmp 32)), none⟩]) (.cond (.tmp 33) (.seq (.region [ 
 ⟨some 34, (.build [(.int .i64 0), (.int .i64 0), (.int .i64 0), (.int .i64 0), (ub 0#64)] []), none⟩,
 ⟨none, (.store 5 (.tmp 2) (.tmp 34)), none⟩,
 ⟨some 3, (.mov (.const (.bool false))), none⟩]) .ret) .skip)) (.seq (.region [ 
 ⟨some 35, (.loadN 5 (.tmp 4)), none⟩,
 ⟨none, (.store 5 (.tmp 2) (.tmp 35)), none⟩,
 ⟨some 3, (.mov (.const (.bool true))), none⟩]) .ret)))), [(.cellN 5 2), (.tmp 3)]⟩
theorem ir51_ok : compFun Tryd.prog Tryd.f51 = some ir51 := by kernel_rfl

/- lockfast.lockfastref09.Right -/
def ir52 : IFun := ⟨9, (.seq (.region [ 
 ⟨some 2, (.mov (.const (.bool false))), none⟩]) (.seq (.region [ 
 ⟨some 3, (.mov (.tmp 0)), none⟩,
 ⟨some 4, (.bin .geq (.tmp 3) (.const (.int .i64 0))), none⟩,
 ⟨some 5, (.mov (.tmp 4)), none⟩,
 ⟨some 6, (.mov (.tmp 0)), (some (5, true))⟩,
 ⟨some 7, (.bin .leq (.tmp 6) (.const (.int .i64 4096))), (some (5, true))⟩,
 ⟨some 8, (.pick (.tmp 5) (.tmp 7) (.const (.bool false))), none⟩,
 ⟨some 2, (.mov (.tmp 8)), none⟩]) .ret)), [(.tmp 2)]⟩
theorem ir52_ok : compFun Tryd.prog Tryd.f52 = some ir52 := by kernel_rfl

/- lockfast.lockfastref11.Chunks -/
def ir53 : IFun := ⟨29, (.seq (.region [ 
 ⟨some 2, (.mov (.const (.slice none 0 0))), none⟩,
 ⟨some 3, (.mov (.const (.bool false))), none⟩]) (.seq (.region [ 
 ⟨some 4, (.mov (.const (.slice none 0 0))), none⟩]) (.seq (.seq (.region [ 
 ⟨some 5, (.mov (.const (.int .i64 0))), none⟩]) (.block 0 (.loop (.seq (.seq (.region [ 
 ⟨some 8, (.mov (.tmp 5)), none⟩,
 ⟨some 9, (.mov (.tmp 0)), none⟩,
 ⟨some 10, (.len (.tmp 9)), none⟩,
 ⟨some 11, (.bin .lss (.tmp 8) (.tmp 10)), none⟩]) (.cond (.tmp 11) .skip (.exit 0))) (.seq (.block 1 (.seq (.region [ 
 ⟨some 15, (.mov (.tmp 0)), none⟩,
 ⟨some 16, (.mov (.tmp 5)), none⟩,
 ⟨some 17, (.iaddr 1 (.tmp 15) (.tmp 16)), none⟩,
 ⟨some 18, (.load1 (.tmp 17)), none⟩,
 ⟨some 19, (.call (.func 74) [(.tmp 18)]), none⟩,
 ⟨some 14, (.mov (.tmp 19)), none⟩,
 ⟨some 20, (.ext (.tmp 14) 0), none⟩,
 ⟨some 21, (.ext (.tmp 14) 1), none⟩,
 ⟨some 6, (.alloc 47 [(.int .i64 0), (.int .i64 0), (.int .i64 0), (.int .i64 0), (ub 0#64)]), none⟩,
 ⟨none, (.store 5 (.tmp 6) (.tmp 20)), none⟩,
 ⟨some 7, (.mov (.tmp 21)), none⟩]) (.seq (.seq (.region [ 
 ⟨some 22, (.mov (.tmp 7)), none⟩,
 ⟨some 23, (.un .not (.tmp 22)), none⟩]) (.cond (.tmp 23) (.seq (.region [ 
 ⟨some 2, (.mov (.const (.slice none 0 0))), none⟩,
 ⟨some 3, (.mov (.const (.bool false))), none⟩]) .ret) .skip)) (.region [ 
 ⟨some 24, (.mov (.tmp 4)), none⟩,
 ⟨some 25, (.loadN 5 (.tmp 6)), none⟩,
 ⟨some 26, (.bslice 47 [(.int .i64 0), (.int .i64 0), (.int .i64 0), (.int .i64 0), (ub 0#64)] 1 [(0, (5, (.tmp 25)))]), none⟩,
 ⟨some 27, (.app 47 5 40 (.tmp 24) (.tmp 26)), none⟩,
 ⟨some 4, (.mov (.tmp 27)), none⟩])))) (.region [ 
 ⟨some 12, (.mov (.tmp 5)), none⟩,
 ⟨some 13, (.bin .add (.tmp 12) (.const (.int .i64 1))), none⟩,
 ⟨some 5, (.mov (.tmp 13)), none⟩])))))) (.seq (.region [ 
 ⟨some 28, (.mov (.tmp 4)), none⟩,
 ⟨some 2, (.mov (.tmp 28)), none⟩,
 ⟨some 3, (.mov (.const (.bool true))), none⟩]) .ret)))), [(.tmp 2), (.tmp 3)]⟩
theorem ir53_ok : compFun Tryd.prog Tryd.f53 = some ir53 := by kernel_rfl

/- lockfast.lockfastref10.Live -/
def ir54 : IFun := ⟨12, (.seq (.region [ 
 ⟨some 2, (.box 47 (.tmp 0)), none⟩,
 ⟨some 4, (.mov (.const (.bool false))), none⟩]) (.seq (.draw [ 
 ⟨some 5, (.faddr 4 (.tmp 2)), none⟩,
 ⟨some 6, (.load1 (.tmp 5)), none⟩,
 ⟨some 7, (.mov (.tmp 1)), none⟩,
 ⟨some 8, (.call (.func 75) [(.tmp 7)]), none⟩,
 ⟨some 9, (.bin .quo (.tmp 6) (.tmp 8)), none⟩,
 ⟨some 10, (.bin .rem (.tmp 9) (.const (ub 2#64))), none⟩,
 ⟨some 11, (.bin .eql (.tmp 10) (.const (ub 1#64))), none⟩,
 ⟨some 4, (.mov (.tmp 11)), none⟩] [(3, 1)]) .ret)), [(.tmp 4)]⟩
theorem ir54_ok : compFun Tryd.prog Tryd.f54 = some ir54 := by kernel_rfl

/- (*lockfast.lockfastref17.Index).row -/
def ir55 : IFun := ⟨36, (.seq (.region [ 
 ⟨some 4, (.mov (.const (.int .i64 0))), none⟩]) (.seq (.seq (.region [ 
 ⟨some 5, (.mov (.const (.int .i64 0))), none⟩]) (.block 0 (.loop (.seq (.seq (.region [ 
 ⟨some 9, (.mov (.tmp 5)), none⟩,
 ⟨some 10, (.mov (.tmp 1)), none⟩,
 ⟨some 11, (.bin .add (.tmp 9) (.tmp 10)), none⟩,
 ⟨some 12, (.mov (.tmp 0)), none⟩,
 ⟨some 13, (.nilck (.tmp 12)), none⟩,
 ⟨some 14, (.faddr 0 (.tmp 13)), none⟩,
 ⟨some 15, (.load1 (.tmp 14)), none⟩,
 ⟨some 16, (.len (.tmp 15)), none⟩,
 ⟨some 17, (.bin .leq (.tmp 11) (.tmp 16)), none⟩]) (.cond (.tmp 17) .skip (.exit 0))) (.seq (.block 1 (.seq (.region [ 
 ⟨some 6, (.mov (.const (.bool true))), none⟩]) (.seq (.seq (.region [ 
 ⟨some 7, (.mov (.const (.int .i64 0))), none⟩]) (.block 2 (.loop (.seq (.seq (.region [ 
 ⟨some 20, (.mov (.tmp 7)), none⟩,
 ⟨some 21, (.mov (.tmp 1)), none⟩,
 ⟨some 22, (.bin .lss (.tmp 20) (.tmp 21)), none⟩]) (.cond (.tmp 22) .skip (.exit 2))) (.seq (.block 3 (.seq (.region [ 
 ⟨some 25, (.mov (.tmp 0)), none⟩,
 ⟨some 26, (.mov (.tmp 5)), none⟩,
 ⟨some 27, (.mov (.tmp 7)), none⟩,
 ⟨some 28, (.bin .add (.tmp 26) (.tmp 27)), none⟩,
 ⟨some 29, (.call (.func 61) [(.tmp 25), (.tmp 28)]), none⟩,
 ⟨some 8, (.mov (.tmp 29)), none⟩]) (.region [ 
 ⟨some 30, (.mov (.tmp 6)), none⟩,
 ⟨some 31, (.mov (.tmp 30)), none⟩,
 ⟨some 32, (.mov (.tmp 8)), (some (31, true))⟩,
 ⟨some 33, (.pick (.tmp 31) (.tmp 32) (.const (.bool false))), none⟩,
 ⟨some 6, (.mov (.tmp 33)), none⟩]))) (.region [ 
 ⟨some 23, (.mov (.tmp 7)), none⟩,
 ⟨some 24, (.bin .add (.tmp 23) (.const (.int .i64 1))), none⟩,
 ⟨some 7, (.mov (.tmp 24)), none⟩])))))) (.seq (.region [ 
 ⟨some 34, (.mov (.tmp 6)), none⟩]) (.cond (.tmp 34) (.seq (.region [ 
 ⟨some 35, (.mov (.tmp 5)), none⟩,
 ⟨some 4, (.mov (.tmp 35)), none⟩]) .ret) .skip))))) (.region [ 
 ⟨some 18, (.mov (.tmp 5)), none⟩,
 ⟨some 19, (.bin .add (.tmp 18) (.const (.int .i64 1))), none⟩,
 ⟨some 5, (.mov (.tmp 19)), none⟩])))))) (.seq (.region [ 
 ⟨some 4, (.mov (.const (.int .i64 (-1)))), none⟩]) .ret))), [(.tmp 4)]⟩
theorem ir55_ok : compFun Tryd.prog Tryd.f55 = some ir55 := by kernel_rfl

/- (*lockfast.lockfastref17.Index).turn -/
def ir56 : IFun := ⟨135, (.seq (.region [ 
 ⟨some 5, (.box 30 (.tmp 1)), none⟩,
 ⟨some 8, (.mov (.const (.bool false))), none⟩]) (.seq (.seq (.draw [ 
 ⟨some 12, (.faddr 0 (.tmp 5)), none⟩,
 ⟨some 13, (.load1 (.tmp 12)), none⟩,
 ⟨some 14, (.bin .lss (.tmp 13) (.const (.int .i64 0))), none⟩,
 ⟨some 15, (.mov (.tmp 14)), none⟩,
 ⟨some 16, (.faddr 0 (.tmp 5)), (some (15, false))⟩,
 ⟨some 17, (.load1 (.tmp 16)), (some (15, false))⟩,
 ⟨some 18, (.mov (.tmp 0)), (some (15, false))⟩,
 ⟨some 19, (.nilck (.tmp 18)), (some (15, false))⟩,
 ⟨some 20, (.faddr 0 (.tmp 19)), (some (15, false))⟩,
 ⟨some 21, (.load1 (.tmp 20)), (some (15, false))⟩,
 ⟨some 22, (.len (.tmp 21)), (some (15, false))⟩,
 ⟨some 23, (.bin .geq (.tmp 17) (.tmp 22)), (some (15, false))⟩,
 ⟨some 24, (.pick (.tmp 15) (.const (.bool true)) (.tmp 23)), none⟩] []) (.cond (.tmp 24) (.seq (.region [ 
 ⟨some 8, (.mov (.const (.bool false))), none⟩]) .ret) .skip)) (.seq (.draw [ 
 ⟨some 25, (.mov (.tmp 0)), none⟩,
 ⟨some 26, (.nilck (.tmp 25)), none⟩,
 ⟨some 27, (.faddr 0 (.tmp 26)), none⟩,
 ⟨some 28, (.load1 (.tmp 27)), none⟩,
 ⟨some 29, (.faddr 0 (.tmp 5)), none⟩,
 ⟨some 30, (.load1 (.tmp 29)), none⟩,
 ⟨some 31, (.iaddr 14 (.tmp 28) (.tmp 30)), none⟩,
 ⟨some 32, (.loadN 14 (.tmp 31)), none⟩,
 ⟨some 9, (.alloc 90 [(.int .i64 0), (.int .i64 0), (.int .i64 0), (.int .i64 0), (ub 0#64), (.int .i64 0), (.int .i64 0), (.int .i64 0), (.int .i64 0), (.int .i64 0), (.int .i64 0), (.int .i64 0), (.int .i64 0), (.bool false)]), none⟩,
 ⟨none, (.store 14 (.tmp 9) (.tmp 32)), none⟩] [(8, 3), (8, 5), (8, 7)]) (.seq (.seq (.region [ 
 ⟨some 33, (.faddr 2 (.tmp 5)), none⟩,
 ⟨some 34, (.load1 (.tmp 33)), none⟩,
 ⟨some 35, (.bin .eql (.tmp 34) (.const (.int .i64 (-1)))), none⟩]) (.cond (.tmp 35) (.seq (.region [ 
 ⟨some 10, (.mov (.const (.int .i64 1))), none⟩]) (.seq (.seq (.region [ 
 ⟨some 36, (.faddr 13 (.tmp 9)), none⟩,
 ⟨some 37, (.load1 (.tmp 36)), none⟩]) (.cond (.tmp 37) (.region [ 
 ⟨some 10, (.mov (.const (.int .i64 2))), none⟩]) .skip)) (.seq (.seq (.region [ 
 ⟨some 38, (.faddr 0 (.tmp 9)), none⟩,
 ⟨some 39, (.faddr 0 (.tmp 38)), none⟩,
 ⟨some 40, (.load1 (.tmp 39)), none⟩,
 ⟨some 41, (.bin .neq (.tmp 40) (.const (.int .i64 2))), none⟩,
 ⟨some 42, (.mov (.tmp 41)), none⟩,
 ⟨some 43, (.faddr 0 (.tmp 9)), (some (42, false))⟩,
 ⟨some 44, (.faddr 3 (.tmp 43)), (some (42, false))⟩,
 ⟨some 45, (.load1 (.tmp 44)), (some (42, false))⟩,
 ⟨some 46, (.faddr 3 (.tmp 5)), (some (42, false))⟩,
 ⟨some 47, (.load1 (.tmp 46)), (some (42, false))⟩,
 ⟨some 48, (.bin .neq (.tmp 45) (.tmp 47)), (some (42, false))⟩,
 ⟨some 49, (.pick (.tmp 42) (.const (.bool true)) (.tmp 48)), none⟩,
 ⟨some 50, (.mov (.tmp 49)), none⟩,
 ⟨some 51, (.faddr 1 (.tmp 5)), (some (50, false))⟩,
 ⟨some 52, (.load1 (.tmp 51)), (some (50, false))⟩,
 ⟨some 53, (.bin .neq (.tmp 52) (.const (.int .i64 0))), (some (50, false))⟩,
 ⟨some 54, (.pick (.tmp 50) (.const (.bool true)) (.tmp 53)), none⟩,
 ⟨some 55, (.mov (.tmp 54)), none⟩,
 ⟨some 56, (.mov (.tmp 10)), (some (55, false))⟩,
 ⟨some 57, (.mov (.tmp 2)), (some (55, false))⟩,
 ⟨some 58, (.bin .neq (.tmp 56) (.tmp 57)), (some (55, false))⟩,
 ⟨some 59, (.pick (.tmp 55) (.const (.bool true)) (.tmp 58)), none⟩]) (.cond (.tmp 59) (.seq (.region [ 
 ⟨some 8, (.mov (.const (.bool false))), none⟩]) .ret) .skip)) (.seq (.seq (.region [ 
 ⟨some 11, (.mov (.const (.int .i64 0))), none⟩]) (.block 0 (.loop (.seq (.seq (.region [ 
 ⟨some 60, (.mov (.tmp 11)), none⟩,
 ⟨some 61, (.faddr 3 (.tmp 5)), none⟩,
 ⟨some 62, (.load1 (.tmp 61)), none⟩,
 ⟨some 63, (.bin .lss (.tmp 60) (.tmp 62)), none⟩,
 ⟨some 64, (.mov (.tmp 63)), none⟩,
 ⟨some 65, (.mov (.tmp 3)), (some (64, true))⟩,
 ⟨some 66, (.bin .eql (.tmp 65) (.const (.int .i64 0))), (some (64, true))⟩,
 ⟨some 67, (.pick (.tmp 64) (.tmp 66) (.const (.bool false))), none⟩]) (.cond (.tmp 67) .skip (.exit 0))) (.seq (.block 1 (.draw [ 
 ⟨some 70, (.mov (.tmp 0)), none⟩,
 ⟨some 71, (.nilck (.tmp 70)), none⟩,
 ⟨some 72, (.faddr 0 (.tmp 71)), none⟩,
 ⟨some 73, (.load1 (.tmp 72)), none⟩,
 ⟨some 74, (.faddr 0 (.tmp 5)), none⟩,
 ⟨some 75, (.load1 (.tmp 74)), none⟩,
 ⟨some 76, (.mov (.tmp 11)), none⟩,
 ⟨some 77, (.bin .add (.tmp 75) (.tmp 76)), none⟩,
 ⟨some 78, (.build [(.int .i64 0), (.int .i64 0), (.int .i64 0), (.int .i64 0), (ub 0#64), (.int .i64 0), (.int .i64 0), (.int .i64 0), (.int .i64 0), (.int .i64 0), (.int .i64 0), (.int .i64 0), (.int .i64 0), (.bool false)] []), none⟩,
 ⟨some 79, (.iaddr 14 (.tmp 73) (.tmp 77)), none⟩,
 ⟨none, (.store 14 (.tmp 79) (.tmp 78)), none⟩] [])) (.region [ 
 ⟨some 68, (.mov (.tmp 11)), none⟩,
 ⟨some 69, (.bin .add (.tmp 68) (.const (.int .i64 1))), none⟩,
 ⟨some 11, (.mov (.tmp 69)), none⟩])))))) (.seq (.seq (.region [ 
 ⟨some 80, (.mov (.tmp 3)), none⟩,
 ⟨some 81, (.bin .eql (.tmp 80) (.const (.int .i64 1))), none⟩]) (.cond (.tmp 81) (.draw [ 
 ⟨some 82, (.mov (.tmp 0)), none⟩,
 ⟨some 83, (.nilck (.tmp 82)), none⟩,
 ⟨some 84, (.faddr 0 (.tmp 83)), none⟩,
 ⟨some 85, (.load1 (.tmp 84)), none⟩,
 ⟨some 86, (.faddr 0 (.tmp 5)), none⟩,
 ⟨some 87, (.load1 (.tmp 86)), none⟩,
 ⟨some 88, (.iaddr 14 (.tmp 85) (.tmp 87)), none⟩,
 ⟨some 89, (.faddr 13 (.tmp 88)), none⟩,
 ⟨none, (.store 1 (.tmp 89) (.const (.bool false))), none⟩] []) .skip)) (.seq (.region [ 
 ⟨some 8, (.mov (.const (.bool true))), none⟩]) .ret)))))) .skip)) (.seq (.seq (.draw [ 
 ⟨some 90, (.faddr 0 (.tmp 9)), none⟩,
 ⟨some 91, (.faddr 0 (.tmp 90)), none⟩,
 ⟨some 92, (.load1 (.tmp 91)), none⟩,
 ⟨some 93, (.bin .neq (.tmp 92) (.const (.int .i64 1))), none⟩,
 ⟨some 94, (.mov (.tmp 93)), none⟩,
 ⟨some 95, (.faddr 0 (.tmp 9)), (some (94, false))⟩,
 ⟨some 96, (.faddr 1 (.tmp 95)), (some (94, false))⟩,
 ⟨some 97, (.load1 (.tmp 96)), (some (94, false))⟩,
 ⟨some 98, (.faddr 2 (.tmp 5)), (some (94, false))⟩,
 ⟨some 99, (.load1 (.tmp 98)), (some (94, false))⟩,
 ⟨some 100, (.bin .neq (.tmp 97) (.tmp 99)), (some (94, false))⟩,
 ⟨some 101, (.pick (.tmp 94) (.const (.bool true)) (.tmp 100)), none⟩,
 ⟨some 102, (.mov (.tmp 101)), none⟩,
 ⟨some 103, (.faddr 1 (.tmp 5)), (some (102, false))⟩,
 ⟨some 104, (.load1 (.tmp 103)), (some (102, false))⟩,
 ⟨some 105, (.bin .lss (.tmp 104) (.const (.int .i64 0))), (some (102, false))⟩,
 ⟨some 106, (.pick (.tmp 102) (.const (.bool true)) (.tmp 105)), none⟩,
 ⟨some 107, (.mov (.tmp 106)), none⟩,
 ⟨some 108, (.faddr 1 (.tmp 5)), (some (107, false))⟩,
 ⟨some 109, (.load1 (.tmp 108)), (some (107, false))⟩,
 ⟨some 110, (.faddr 0 (.tmp 9)), (some (107, false))⟩,
 ⟨some 111, (.faddr 1 (.tmp 110)), (some (107, false))⟩,
 ⟨some 112, (.load1 (.tmp 111)), (some (107, false))⟩,
 ⟨some 113, (.call (.func 20) [(.tmp 112)]), (some (107, false))⟩,
 ⟨some 114, (.bin .geq (.tmp 109) (.tmp 113)), (some (107, false))⟩,
 ⟨some 115, (.pick (.tmp 107) (.const (.bool true)) (.tmp 114)), none⟩] [(23, 19)]) (.cond (.tmp 115) (.seq (.region [ 
 ⟨some 8, (.mov (.const (.bool false))), none⟩]) .ret) .skip)) (.seq (.seq (.region [ 
 ⟨some 116, (.faddr 1 (.tmp 5)), none⟩,
 ⟨some 117, (.load1 (.tmp 116)), none⟩,
 ⟨some 118, (.faddr 5 (.tmp 9)), none⟩,
 ⟨some 119, (.iaddrA 8 1 (.tmp 118) (.tmp 117)), none⟩,
 ⟨some 120, (.load1 (.tmp 119)), none⟩,
 ⟨some 121, (.mov (.tmp 2)), none⟩,
 ⟨some 122, (.bin .neq (.tmp 120) (.tmp 121)), none⟩]) (.cond (.tmp 122) (.seq (.region [ 
 ⟨some 8, (.mov (.const (.bool false))), none⟩]) .ret) .skip)) (.seq (.draw [ 
 ⟨some 123, (.mov (.tmp 0)), none⟩,
 ⟨some 124, (.nilck (.tmp 123)), none⟩,
 ⟨some 125, (.faddr 0 (.tmp 124)), none⟩,
 ⟨some 126, (.load1 (.tmp 125)), none⟩,
 ⟨some 127, (.faddr 0 (.tmp 5)), none⟩,
 ⟨some 128, (.load1 (.tmp 127)), none⟩,
 ⟨some 129, (.faddr 1 (.tmp 5)), none⟩,
 ⟨some 130, (.load1 (.tmp 129)), none⟩,
 ⟨some 131, (.mov (.tmp 3)), none⟩,
 ⟨some 132, (.iaddr 14 (.tmp 126) (.tmp 128)), none⟩,
 ⟨some 133, (.faddr 5 (.tmp 132)), none⟩,
 ⟨some 134, (.iaddrA 8 1 (.tmp 133) (.tmp 130)), none⟩,
 ⟨none, (.store 1 (.tmp 134) (.tmp 131)), none⟩] []) (.seq (.region [ 
 ⟨some 8, (.mov (.const (.bool true))), none⟩]) .ret)))))))), [(.tmp 8)]⟩
theorem ir56_ok : compFun Tryd.prog Tryd.f56 = some ir56 := by kernel_rfl

/- lockfast.chunk.Right -/
def ir57 : IFun := ⟨11, (.seq (.region [ 
 ⟨some 1, (.box 47 (.tmp 0)), none⟩,
 ⟨some 2, (.mov (.const (.bool false))), none⟩]) (.seq (.draw [ 
 ⟨some 3, (.loadN 5 (.tmp 1)), none⟩,
 ⟨some 4, (.call (.func 76) [(.tmp 3)]), none⟩,
 ⟨some 5, (.mov (.tmp 4)), none⟩,
 ⟨some 6, (.loadN 5 (.tmp 1)), (some (5, true))⟩,
 ⟨some 7, (.call (.func 77) [(.tmp 6)]), (some (5, true))⟩,
 ⟨some 8, (.loadN 5 (.tmp 1)), (some (5, true))⟩,
 ⟨some 9, (.seq false [(0, true), (1, true), (2, true), (3, true), (4, true)] (.tmp 7) (.tmp 8)), (some (5, true))⟩,
 ⟨some 10, (.pick (.tmp 5) (.tmp 9) (.const (.bool false))), none⟩,
 ⟨some 2, (.mov (.tmp 10)), none⟩] [(4, 5)]) .ret)), [(.tmp 2)]⟩
theorem ir57_ok : compFun Tryd.prog Tryd.f57 = some ir57 := by kernel_rfl

/- (*lockfast.index.Index).row -/
def ir58 : IFun := ⟨22, (.seq (.region [ 
 ⟨some 4, (.mov (.const (.int .i64 0))), none⟩,
 ⟨some 5, (.mov (.const (.bool false))), none⟩]) (.seq (.seq (.region [ 
 ⟨some 8, (.mov (.tmp 0)), none⟩,
 ⟨some 9, (.call (.func 35) [(.tmp 8)]), none⟩,
 ⟨some 10, (.len (.tmp 9)), none⟩,
 ⟨some 11, (.mov (.const (.int .i64 0))), none⟩]) (.block 0 (.loop (.seq (.region [ 
 ⟨some 12, (.bin .lss (.tmp 11) (.tmp 10)), none⟩]) (.seq (.cond (.tmp 12) .skip (.exit 0)) (.seq (.block 1 (.seq (.region [ 
 ⟨some 13, (.iaddr 2 (.tmp 9) (.tmp 11)), none⟩,
 ⟨some 14, (.loadN 2 (.tmp 13)), none⟩,
 ⟨some 7, (.alloc 43 [(.int .i64 0), (.int .i64 0)]), none⟩,
 ⟨none, (.store 2 (.tmp 7) (.tmp 14)), none⟩]) (.seq (.region [ 
 ⟨some 15, (.faddr 1 (.tmp 7)), none⟩,
 ⟨some 16, (.load1 (.tmp 15)), none⟩,
 ⟨some 17, (.mov (.tmp 1)), none⟩,
 ⟨some 18, (.bin .geq (.tmp 16) (.tmp 17)), none⟩]) (.cond (.tmp 18) (.seq (.region [ 
 ⟨some 19, (.faddr 0 (.tmp 7)), none⟩,
 ⟨some 20, (.load1 (.tmp 19)), none⟩,
 ⟨some 4, (.mov (.tmp 20)), none⟩,
 ⟨some 5, (.mov (.const (.bool true))), none⟩]) .ret) .skip)))) (.region [ 
 ⟨some 21, (.bin .add (.tmp 11) (.const (.int .i64 1))), none⟩,
 ⟨some 11, (.mov (.tmp 21)), none⟩]))))))) (.seq (.region [ 
 ⟨some 4, (.mov (.const (.int .i64 0))), none⟩,
 ⟨some 5, (.mov (.const (.bool false))), none⟩]) .ret))), [(.tmp 4), (.tmp 5)]⟩
theorem ir58_ok : compFun Tryd.prog Tryd.f58 = some ir58 := by kernel_rfl

/- lockfast.lockfastref10.Bit -/
def ir59 : IFun := ⟨12, (.seq (.region [ 
 ⟨some 2, (.mov (.const (ub 0#64))), none⟩]) (.seq (.seq (.region [ 
 ⟨some 3, (.mov (.tmp 0)), none⟩,
 ⟨some 4, (.bin .lss (.tmp 3) (.const (.int .i64 0))), none⟩,
 ⟨some 5, (.mov (.tmp 4)), none⟩,
 ⟨some 6, (.mov (.tmp 0)), (some (5, false))⟩,
 ⟨some 7, (.bin .gtr (.tmp 6) (.const (.int .i64 7))), (some (5, false))⟩,
 ⟨some 8, (.pick (.tmp 5) (.const (.bool true)) (.tmp 7)), none⟩]) (.cond (.tmp 8) (.seq (.region [ 
 ⟨some 2, (.mov (.const (ub 0#64))), none⟩]) .ret) .skip)) (.seq (.region [ 
 ⟨some 9, (.mov (.tmp 0)), none⟩,
 ⟨some 10, (.call (.func 75) [(.tmp 9)]), none⟩,
 ⟨some 11, (.bin .mul (.const (ub 16777216#64)) (.tmp 10)), none⟩,
 ⟨some 2, (.mov (.tmp 11)), none⟩]) .ret))), [(.tmp 2)]⟩
theorem ir59_ok : compFun Tryd.prog Tryd.f59 = some ir59 := by kernel_rfl

/- (lockfast.index.one).free -/
def ir60 : IFun := ⟨17, (.seq (.region [ 
 ⟨some 1, (.box 75 (.tmp 0)), none⟩,
 ⟨some 2, (.mov (.const (.bool false))), none⟩]) (.seq (.region [ 
 ⟨some 3, (.faddr 0 (.tmp 1)), none⟩,
 ⟨some 4, (.faddr 0 (.tmp 3)), none⟩,
 ⟨some 5, (.load1 (.tmp 4)), none⟩,
 ⟨some 6, (.bin .eql (.tmp 5) (.const (.int .i64 0))), none⟩,
 ⟨some 7, (.mov (.tmp 6)), none⟩,
 ⟨some 8, (.faddr 0 (.tmp 1)), (some (7, false))⟩,
 ⟨some 9, (.loadN 5 (.tmp 8)), (some (7, false))⟩,
 ⟨some 10, (.call (.func 49) [(.tmp 9)]), (some (7, false))⟩,
 ⟨some 11, (.mov (.tmp 10)), (some (7, false))⟩,
 ⟨some 12, (.faddr 5 (.tmp 1)), (some (11, true))⟩,
 ⟨some 13, (.load1 (.tmp 12)), (some (11, true))⟩,
 ⟨some 14, (.bin .eql (.tmp 13) (.const (ub 0#64))), (some (11, true))⟩,
 ⟨some 15, (.pick (.tmp 11) (.tmp 14) (.const (.bool false))), (some (7, false))⟩,
 ⟨some 16, (.pick (.tmp 7) (.const (.bool true)) (.tmp 15)), none⟩,
 ⟨some 2, (.mov (.tmp 16)), none⟩]) .ret)), [(.tmp 2)]⟩
theorem ir60_ok : compFun Tryd.prog Tryd.f60 = some ir60 := by kernel_rfl

/- (*lockfast.lockfastref17.Index).May -/
def ir61 : IFun := ⟨29, (.seq (.region [ 
 ⟨some 4, (.mov (.const (.bool false))), none⟩]) (.seq (.region [ 
 ⟨some 6, (.mov (.tmp 0)), none⟩,
 ⟨some 7, (.nilck (.tmp 6)), none⟩,
 ⟨some 8, (.faddr 0 (.tmp 7)), none⟩,
 ⟨some 9, (.load1 (.tmp 8)), none⟩,
 ⟨some 10, (.mov (.tmp 1)), none⟩,
 ⟨some 11, (.iaddr 14 (.tmp 9) (.tmp 10)), none⟩,
 ⟨some 12, (.loadN 14 (.tmp 11)), none⟩,
 ⟨some 5, (.alloc 90 [(.int .i64 0), (.int .i64 0), (.int .i64 0), (.int .i64 0), (ub 0#64), (.int .i64 0), (.int .i64 0), (.int .i64 0), (.int .i64 0), (.int .i64 0), (.int .i64 0), (.int .i64 0), (.int .i64 0), (.bool false)]), none⟩,
 ⟨none, (.store 14 (.tmp 5) (.tmp 12)), none⟩]) (.seq (.region [ 
 ⟨some 13, (.faddr 0 (.tmp 5)), none⟩,
 ⟨some 14, (.faddr 0 (.tmp 13)), none⟩,
 ⟨some 15, (.load1 (.tmp 14)), none⟩,
 ⟨some 16, (.bin .eql (.tmp 15) (.const (.int .i64 0))), none⟩,
 ⟨some 17, (.mov (.tmp 16)), none⟩,
 ⟨some 18, (.faddr 0 (.tmp 5)), (some (17, false))⟩,
 ⟨some 19, (.faddr 0 (.tmp 18)), (some (17, false))⟩,
 ⟨some 20, (.load1 (.tmp 19)), (some (17, false))⟩,
 ⟨some 21, (.bin .eql (.tmp 20) (.const (.int .i64 1))), (some (17, false))⟩,
 ⟨some 22, (.mov (.tmp 21)), (some (17, false))⟩,
 ⟨some 23, (.faddr 5 (.tmp 5)), (some (22, true))⟩,
 ⟨some 24, (.loadN 8 (.tmp 23)), (some (22, true))⟩,
 ⟨some 25, (.build [(.int .i64 0), (.int .i64 0), (.int .i64 0), (.int .i64 0), (.int .i64 0), (.int .i64 0), (.int .i64 0), (.int .i64 0)] []), (some (22, true))⟩,
 ⟨some 26, (.seq false [(0, true), (1, true), (2, true), (3, true), (4, true), (5, true), (6, true), (7, true)] (.tmp 24) (.tmp 25)), (some (22, true))⟩,
 ⟨some 27, (.pick (.tmp 22) (.tmp 26) (.const (.bool false))), (some (17, false))⟩,
 ⟨some 28, (.pick (.tmp 17) (.const (.bool true)) (.tmp 27)), none⟩,
 ⟨some 4, (.mov (.tmp 28)), none⟩]) .ret))), [(.tmp 4)]⟩
theorem ir61_ok : compFun Tryd.prog Tryd.f61 = some ir61 := by kernel_rfl

/- lockfast.tile.each -/
def ir62 : IFun := ⟨11, (.seq (.region [ 
 ⟨some 2, (.mov (.const .nilFunc)), none⟩]) (.seq (.region [ 
 ⟨some 6, (.mov (.tmp 0)), none⟩,
 ⟨some 7, (.call (.func 17) [(.tmp 6)]), none⟩,
 ⟨some 5, (.mov (.tmp 7)), none⟩,
 ⟨some 8, (.ext (.tmp 5) 0), none⟩,
 ⟨some 9, (.ext (.tmp 5) 1), none⟩,
 ⟨some 3, (.alloc 39 [(.slice none 0 0)]), none⟩,
 ⟨none, (.store 1 (.tmp 3) (.tmp 8)), none⟩,
 ⟨some 4, (.mov (.tmp 9)), none⟩]) (.seq (.region [ 
 ⟨some 10, (.mkfn 78 [] [(.tmp 3)]), none⟩,
 ⟨some 2, (.mov (.tmp 10)), none⟩]) .ret))), [(.tmp 2)]⟩
theorem ir62_ok : compFun Tryd.prog Tryd.f62 = some ir62 := by kernel_rfl

/- lockfast.lockfastref10.Right -/
def ir63 : IFun := ⟨87, (.seq (.region [ 
 ⟨some 1, (.box 47 (.tmp 0)), none⟩,
 ⟨some 2, (.mov (.const (.bool false))), none⟩]) (.seq (.seq (.region [ 
 ⟨some 3, (.faddr 0 (.tmp 1)), none⟩,
 ⟨some 4, (.load1 (.tmp 3)), none⟩]) (.block 0 (.seq (.seq (.region [ 
 ⟨some 6, (.bin .eql (.tmp 4) (.const (.int .i64 0))), none⟩,
 ⟨some 5, (.mov (.tmp 6)), none⟩]) (.cond (.tmp 5) .skip (.region [ 
 ⟨some 7, (.bin .eql (.tmp 4) (.const (.int .i64 3))), none⟩,
 ⟨some 5, (.mov (.tmp 7)), none⟩]))) (.cond (.tmp 5) (.seq (.region [ 
 ⟨some 8, (.loadN 5 (.tmp 1)), none⟩,
 ⟨some 9, (.faddr 0 (.tmp 1)), none⟩,
 ⟨some 10, (.load1 (.tmp 9)), none⟩,
 ⟨some 11, (.build [(.int .i64 0), (.int .i64 0), (.int .i64 0), (.int .i64 0), (ub 0#64)] [(0, (1, (.tmp 10)))]), none⟩,
 ⟨some 12, (.seq false [(0, true), (1, true), (2, true), (3, true), (4, true)] (.tmp 8) (.tmp 11)), none⟩,
 ⟨some 2, (.mov (.tmp 12)), none⟩]) .ret) (.seq (.region [ 
 ⟨some 14, (.bin .eql (.tmp 4) (.const (.int .i64 1))), none⟩,
 ⟨some 13, (.mov (.tmp 14)), none⟩]) (.cond (.tmp 13) (.seq (.draw [ 
 ⟨some 15, (.loadN 5 (.tmp 1)), none⟩,
 ⟨some 16, (.faddr 1 (.tmp 1)), none⟩,
 ⟨some 17, (.load1 (.tmp 16)), none⟩,
 ⟨some 18, (.faddr 4 (.tmp 1)), none⟩,
 ⟨some 19, (.load1 (.tmp 18)), none⟩,
 ⟨some 20, (.build [(.int .i64 0), (.int .i64 0), (.int .i64 0), (.int .i64 0), (ub 0#64)] [(0, (1, (.const (.int .i64 1)))), (1, (1, (.tmp 17))), (4, (1, (.tmp 19)))]), none⟩,
 ⟨some 21, (.seq false [(0, true), (1, true), (2, true), (3, true), (4, true)] (.tmp 15) (.tmp 20)), none⟩,
 ⟨some 22, (.mov (.tmp 21)), none⟩,
 ⟨some 23, (.faddr 1 (.tmp 1)), (some (22, true))⟩,
 ⟨some 24, (.load1 (.tmp 23)), (some (22, true))⟩,
 ⟨some 25, (.bin .geq (.tmp 24) (.const (.int .i64 0))), (some (22, true))⟩,
 ⟨some 26, (.pick (.tmp 22) (.tmp 25) (.const (.bool false))), none⟩,
 ⟨some 27, (.mov (.tmp 26)), none⟩,
 ⟨some 28, (.faddr 1 (.tmp 1)), (some (27, true))⟩,
 ⟨some 29, (.load1 (.tmp 28)), (some (27, true))⟩,
 ⟨some 30, (.bin .leq (.tmp 29) (.const (.int .i64 2))), (some (27, true))⟩,
 ⟨some 31, (.pick (.tmp 27) (.tmp 30) (.const (.bool false))), none⟩,
 ⟨some 32, (.mov (.tmp 31)), none⟩,
 ⟨some 33, (.faddr 4 (.tmp 1)), (some (32, true))⟩,
 ⟨some 34, (.load1 (.tmp 33)), (some (32, true))⟩,
 ⟨some 35, (.faddr 1 (.tmp 1)), (some (32, true))⟩,
 ⟨some 36, (.load1 (.tmp 35)), (some (32, true))⟩,
 ⟨some 37, (.call (.func 20) [(.tmp 36)]), (some (32, true))⟩,
 ⟨some 38, (.call (.func 75) [(.tmp 37)]), (some (32, true))⟩,
 ⟨some 39, (.bin .lss (.tmp 34) (.tmp 38)), (some (32, true))⟩,
 ⟨some 40, (.pick (.tmp 32) (.tmp 39) (.const (.bool false))), none⟩,
 ⟨some 2, (.mov (.tmp 40)), none⟩] [(22, 19), (23, 19)]) .ret) (.seq (.region [ 
 ⟨some 42, (.bin .eql (.tmp 4) (.const (.int .i64 2))), none⟩,
 ⟨some 41, (.mov (.tmp 42)), none⟩]) (.cond (.tmp 41) (.seq (.region [ 
 ⟨some 43, (.loadN 5 (.tmp 1)), none⟩,
 ⟨some 44, (.faddr 3 (.tmp 1)), none⟩,
 ⟨some 45, (.load1 (.tmp 44)), none⟩,
 ⟨some 46, (.build [(.int .i64 0), (.int .i64 0), (.int .i64 0), (.int .i64 0), (ub 0#64)] [(0, (1, (.const (.int .i64 2)))), (3, (1, (.tmp 45)))]), none⟩,
 ⟨some 47, (.seq false [(0, true), (1, true), (2, true), (3, true), (4, true)] (.tmp 43) (.tmp 46)), none⟩,
 ⟨some 48, (.mov (.tmp 47)), none⟩,
 ⟨some 49, (.faddr 3 (.tmp 1)), (some (48, true))⟩,
 ⟨some 50, (.load1 (.tmp 49)), (some (48, true))⟩,
 ⟨some 51, (.bin .geq (.tmp 50) (.const (.int .i64 1))), (some (48, true))⟩,
 ⟨some 52, (.pick (.tmp 48) (.tmp 51) (.const (.bool false))), none⟩,
 ⟨some 53, (.mov (.tmp 52)), none⟩,
 ⟨some 54, (.faddr 3 (.tmp 1)), (some (53, true))⟩,
 ⟨some 55, (.load1 (.tmp 54)), (some (53, true))⟩,
 ⟨some 56, (.bin .leq (.tmp 55) (.const (.int .i64 8191))), (some (53, true))⟩,
 ⟨some 57, (.pick (.tmp 53) (.tmp 56) (.const (.bool false))), none⟩,
 ⟨some 2, (.mov (.tmp 57)), none⟩]) .ret) (.seq (.region [ 
 ⟨some 59, (.bin .eql (.tmp 4) (.const (.int .i64 4))), none⟩,
 ⟨some 58, (.mov (.tmp 59)), none⟩]) (.cond (.tmp 58) (.seq (.region [ 
 ⟨some 60, (.loadN 5 (.tmp 1)), none⟩,
 ⟨some 61, (.faddr 2 (.tmp 1)), none⟩,
 ⟨some 62, (.load1 (.tmp 61)), none⟩,
 ⟨some 63, (.faddr 3 (.tmp 1)), none⟩,
 ⟨some 64, (.load1 (.tmp 63)), none⟩,
 ⟨some 65, (.build [(.int .i64 0), (.int .i64 0), (.int .i64 0), (.int .i64 0), (ub 0#64)] [(0, (1, (.const (.int .i64 4)))), (2, (1, (.tmp 62))), (3, (1, (.tmp 64)))]), none⟩,
 ⟨some 66, (.seq false [(0, true), (1, true), (2, true), (3, true), (4, true)] (.tmp 60) (.tmp 65)), none⟩,
 ⟨some 67, (.mov (.tmp 66)), none⟩,
 ⟨some 68, (.faddr 2 (.tmp 1)), (some (67, true))⟩,
 ⟨some 69, (.load1 (.tmp 68)), (some (67, true))⟩,
 ⟨some 70, (.bin .geq (.tmp 69) (.const (.int .i64 0))), (some (67, true))⟩,
 ⟨some 71, (.pick (.tmp 67) (.tmp 70) (.const (.bool false))), none⟩,
 ⟨some 72, (.mov (.tmp 71)), none⟩,
 ⟨some 73, (.faddr 2 (.tmp 1)), (some (72, true))⟩,
 ⟨some 74, (.load1 (.tmp 73)), (some (72, true))⟩,
 ⟨some 75, (.bin .leq (.tmp 74) (.const (.int .i64 63))), (some (72, true))⟩,
 ⟨some 76, (.pick (.tmp 72) (.tmp 75) (.const (.bool false))), none⟩,
 ⟨some 77, (.mov (.tmp 76)), none⟩,
 ⟨some 78, (.faddr 3 (.tmp 1)), (some (77, true))⟩,
 ⟨some 79, (.load1 (.tmp 78)), (some (77, true))⟩,
 ⟨some 80, (.bin .geq (.tmp 79) (.const (.int .i64 0))), (some (77, true))⟩,
 ⟨some 81, (.pick (.tmp 77) (.tmp 80) (.const (.bool false))), none⟩,
 ⟨some 82, (.mov (.tmp 81)), none⟩,
 ⟨some 83, (.faddr 3 (.tmp 1)), (some (82, true))⟩,
 ⟨some 84, (.load1 (.tmp 83)), (some (82, true))⟩,
 ⟨some 85, (.bin .leq (.tmp 84) (.const (.int .i64 7))), (some (82, true))⟩,
 ⟨some 86, (.pick (.tmp 82) (.tmp 85) (.const (.bool false))), none⟩,
 ⟨some 2, (.mov (.tmp 86)), none⟩]) .ret) .skip)))))))))) (.seq (.region [ 
 ⟨some 2, (.mov (.const (.bool false))), none⟩]) .ret))), [(.tmp 2)]⟩
theorem ir63_ok : compFun Tryd.prog Tryd.f63 = some ir63 := by kernel_rfl

/- lockfast.class.takes -/
def ir64 : IFun := ⟨5, (.seq (.region [ 
 ⟨some 2, (.mov (.const (.int .i64 0))), none⟩]) (.seq (.region [ 
 ⟨some 3, (.mov (.tmp 0)), none⟩,
 ⟨some 4, (.bin .add (.tmp 3) (.const (.int .i64 2))), none⟩,
 ⟨some 2, (.mov (.tmp 4)), none⟩]) .ret)), [(.tmp 2)]⟩
theorem ir64_ok : compFun Tryd.prog Tryd.f64 = some ir64 := by kernel_rfl

/- (*lockfast.index.Index).runs -/
def ir65 : IFun := ⟨6, (.seq (.region [ 
 ⟨some 2, (.box 25 (.tmp 0)), none⟩,
 ⟨some 3, (.box 3 (.tmp 1)), none⟩,
 ⟨some 4, (.mov (.const .nilFunc)), none⟩]) (.seq (.region [ 
 ⟨some 5, (.mkfn 81 [] [(.tmp 2), (.tmp 3)]), none⟩,
 ⟨some 4, (.mov (.tmp 5)), none⟩]) .ret)), [(.tmp 4)]⟩
theorem ir65_ok : compFun Tryd.prog Tryd.f65 = some ir65 := by kernel_rfl

/- lockfast.class.Many -/
def ir66 : IFun := ⟨10, (.seq (.region [ 
 ⟨some 2, (.mov (.const (.int .i64 0))), none⟩]) (.seq (.region [ 
 ⟨some 4, (.mov (.tmp 0)), none⟩,
 ⟨some 5, (.call (.func 80) [(.tmp 4)]), none⟩,
 ⟨some 3, (.mov (.tmp 5)), none⟩]) (.seq (.seq (.region [ 
 ⟨some 6, (.mov (.tmp 3)), none⟩,
 ⟨some 7, (.bin .eql (.tmp 6) (.const (.int .i64 0))), none⟩]) (.cond (.tmp 7) (.seq (.region [ 
 ⟨some 2, (.mov (.const (.int .i64 0))), none⟩]) .ret) .skip)) (.seq (.region [ 
 ⟨some 8, (.mov (.tmp 3)), none⟩,
 ⟨some 9, (.bin .quo (.const (.int .i64 32)) (.tmp 8)), none⟩,
 ⟨some 2, (.mov (.tmp 9)), none⟩]) .ret)))), [(.tmp 2)]⟩
theorem ir66_ok : compFun Tryd.prog Tryd.f66 = some ir66 := by kernel_rfl

/- lockfast.chunk.word -/
def ir67 : IFun := ⟨49, (.seq (.region [ 
 ⟨some 1, (.box 47 (.tmp 0)), none⟩,
 ⟨some 2, (.mov (.const (ub 0#64))), none⟩]) (.seq (.region [ 
 ⟨some 3, (.mov (.const (ub 0#64))), none⟩]) (.seq (.seq (.draw [ 
 ⟨some 6, (.call (.func 68) []), none⟩,
 ⟨some 7, (.mkfn 83 [(.tmp 6)] []), none⟩,
 ⟨some 8, (.faddr 0 (.tmp 1)), none⟩,
 ⟨some 9, (.load1 (.tmp 8)), none⟩,
 ⟨some 10, (.conv .u64 (.tmp 9)), none⟩,
 ⟨some 11, (.build [.nilFunc, (ub 0#64)] [(0, (1, (.tmp 7))), (1, (1, (.tmp 10)))]), none⟩,
 ⟨some 12, (.call (.func 70) []), none⟩,
 ⟨some 13, (.mkfn 83 [(.tmp 12)] []), none⟩,
 ⟨some 14, (.faddr 1 (.tmp 1)), none⟩,
 ⟨some 15, (.load1 (.tmp 14)), none⟩,
 ⟨some 16, (.conv .u64 (.tmp 15)), none⟩,
 ⟨some 17, (.build [.nilFunc, (ub 0#64)] [(0, (1, (.tmp 13))), (1, (1, (.tmp 16)))]), none⟩,
 ⟨some 18, (.call (.func 71) []), none⟩,
 ⟨some 19, (.mkfn 83 [(.tmp 18)] []), none⟩,
 ⟨some 20, (.faddr 2 (.tmp 1)), none⟩,
 ⟨some 21, (.load1 (.tmp 20)), none⟩,
 ⟨some 22, (.conv .u64 (.tmp 21)), none⟩,
 ⟨some 23, (.build [.nilFunc, (ub 0#64)] [(0, (1, (.tmp 19))), (1, (1, (.tmp 22)))]), none⟩,
 ⟨some 24, (.call (.func 72) []), none⟩,
 ⟨some 25, (.mkfn 83 [(.tmp 24)] []), none⟩,
 ⟨some 26, (.faddr 3 (.tmp 1)), none⟩,
 ⟨some 27, (.load1 (.tmp 26)), none⟩,
 ⟨some 28, (.conv .u64 (.tmp 27)), none⟩,
 ⟨some 29, (.build [.nilFunc, (ub 0#64)] [(0, (1, (.tmp 25))), (1, (1, (.tmp 28)))]), none⟩,
 ⟨some 30, (.call (.func 73) []), none⟩,
 ⟨some 31, (.mkfn 83 [(.tmp 30)] []), none⟩,
 ⟨some 32, (.faddr 4 (.tmp 1)), none⟩,
 ⟨some 33, (.load1 (.tmp 32)), none⟩,
 ⟨some 34, (.build [.nilFunc, (ub 0#64)] [(0, (1, (.tmp 31))), (1, (1, (.tmp 33)))]), none⟩,
 ⟨some 35, (.bslice 115 [.nilFunc, (ub 0#64), .nilFunc, (ub 0#64), .nilFunc, (ub 0#64), .nilFunc, (ub 0#64), .nilFunc, (ub 0#64)] 5 [(0, (2, (.tmp 11))), (2, (2, (.tmp 17))), (4, (2, (.tmp 23))), (6, (2, (.tmp 29))), (8, (2, (.tmp 34)))]), none⟩,
 ⟨some 36, (.len (.tmp 35)), none⟩,
 ⟨some 37, (.mov (.const (.int .i64 0))), none⟩] [(0, 3), (0, 9), (0, 15), (0, 21), (0, 27), (6, 3), (12, 3), (18, 3), (24, 3), (6, 9), (6, 15), (6, 21), (6, 27), (12, 9), (18, 9), (24, 9), (12, 15), (12, 21), (12, 27), (18, 15), (24, 15), (18, 21), (18, 27), (24, 21), (24, 27)]) (.block 0 (.loop (.seq (.region [ 
 ⟨some 38, (.bin .lss (.tmp 37) (.tmp 36)), none⟩]) (.seq (.cond (.tmp 38) .skip (.exit 0)) (.seq (.block 1 (.seq (.region [ 
 ⟨some 39, (.iaddr 2 (.tmp 35) (.tmp 37)), none⟩,
 ⟨some 40, (.loadN 2 (.tmp 39)), none⟩,
 ⟨some 5, (.alloc 115 [.nilFunc, (ub 0#64)]), none⟩,
 ⟨none, (.store 2 (.tmp 5) (.tmp 40)), none⟩]) (.region [ 
 ⟨some 41, (.faddr 0 (.tmp 5)), none⟩,
 ⟨some 42, (.load1 (.tmp 41)), none⟩,
 ⟨some 43, (.mov (.tmp 3)), none⟩,
 ⟨some 44, (.faddr 1 (.tmp 5)), none⟩,
 ⟨some 45, (.load1 (.tmp 44)), none⟩,
 ⟨some 46, (.call (.tmp 42) [(.tmp 43), (.tmp 45)]), none⟩,
 ⟨some 3, (.mov (.tmp 46)), none⟩]))) (.region [ 
 ⟨some 47, (.bin .add (.tmp 37) (.const (.int .i64 1))), none⟩,
 ⟨some 37, (.mov (.tmp 47)), none⟩]))))))) (.seq (.region [ 
 ⟨some 48, (.mov (.tmp 3)), none⟩,
 ⟨some 2, (.mov (.tmp 48)), none⟩]) .ret)))), [(.tmp 2)]⟩
theorem ir67_ok : compFun Tryd.prog Tryd.f67 = some ir67 := by kernel_rfl

/- lockfast.chunk.kinds -/
def ir68 : IFun := ⟨2, (.seq (.region [ 
 ⟨some 0, (.alloc 105 [(.int .i64 0), (.int .i64 0)]), none⟩]) (.seq (.region [ 
 ⟨some 1, (.build [(.int .i64 0), (.int .i64 0)] [(0, (1, (.const (.int .i64 0)))), (1, (1, (.const (.int .i64 3))))]), none⟩,
 ⟨none, (.store 2 (.tmp 0) (.tmp 1)), none⟩]) .ret)), [(.cellN 2 0)]⟩
theorem ir68_ok : compFun Tryd.prog Tryd.f68 = some ir68 := by kernel_rfl

/- (lockfast.chunk.place).get -/
def ir69 : IFun := ⟨11, (.seq (.region [ 
 ⟨some 2, (.box 105 (.tmp 0)), none⟩,
 ⟨some 4, (.mov (.const (ub 0#64))), none⟩]) (.seq (.region [ 
 ⟨some 5, (.mov (.tmp 1)), none⟩,
 ⟨some 6, (.faddr 0 (.tmp 2)), none⟩,
 ⟨some 7, (.load1 (.tmp 6)), none⟩,
 ⟨some 8, (.faddr 1 (.tmp 2)), none⟩,
 ⟨some 9, (.load1 (.tmp 8)), none⟩,
 ⟨some 10, (.call (.func 84) [(.tmp 5), (.tmp 7), (.tmp 9)]), none⟩,
 ⟨some 4, (.mov (.tmp 10)), none⟩]) .ret)), [(.tmp 4)]⟩
theorem ir69_ok : compFun Tryd.prog Tryd.f69 = some ir69 := by kernel_rfl

end Go.Am.YtdcppkhobfbpeaaDoor
