/-
  The functions as code of the abstract machine, and that the compiling answers them.
-/
import Derived.Test.YtdcppkhobfbpeaaDoorAmL
import Derived.Test.YtdcppkhobfbpeaaDoorProg
set_option linter.unusedVariables false
namespace Go.Am.YtdcppkhobfbpeaaDoor
open Go Go.Am Go.Proofs

/- lockfast.chunk.classes -/
def ir70 : IFun := ⟨2, (.seq (.region [ 
 ⟨some 0, (.alloc 105 [(.int .i64 0), (.int .i64 0)]), none⟩]) (.seq (.region [ 
 ⟨some 1, (.build [(.int .i64 0), (.int .i64 0)] [(0, (1, (.const (.int .i64 3)))), (1, (1, (.const (.int .i64 2))))]), none⟩,
 ⟨none, (.store 2 (.tmp 0) (.tmp 1)), none⟩]) .ret)), [(.cellN 2 0)]⟩
theorem ir70_ok : compFun Tryd.prog Tryd.f70 = some ir70 := by kernel_rfl

/- lockfast.chunk.lanes -/
def ir71 : IFun := ⟨2, (.seq (.region [ 
 ⟨some 0, (.alloc 105 [(.int .i64 0), (.int .i64 0)]), none⟩]) (.seq (.region [ 
 ⟨some 1, (.build [(.int .i64 0), (.int .i64 0)] [(0, (1, (.const (.int .i64 5)))), (1, (1, (.const (.int .i64 6))))]), none⟩,
 ⟨none, (.store 2 (.tmp 0) (.tmp 1)), none⟩]) .ret)), [(.cellN 2 0)]⟩
theorem ir71_ok : compFun Tryd.prog Tryd.f71 = some ir71 := by kernel_rfl

/- lockfast.chunk.manys -/
def ir72 : IFun := ⟨2, (.seq (.region [ 
 ⟨some 0, (.alloc 105 [(.int .i64 0), (.int .i64 0)]), none⟩]) (.seq (.region [ 
 ⟨some 1, (.build [(.int .i64 0), (.int .i64 0)] [(0, (1, (.const (.int .i64 11)))), (1, (1, (.const (.int .i64 13))))]), none⟩,
 ⟨none, (.store 2 (.tmp 0) (.tmp 1)), none⟩]) .ret)), [(.cellN 2 0)]⟩
theorem ir72_ok : compFun Tryd.prog Tryd.f72 = some ir72 := by kernel_rfl

/- lockfast.chunk.bits -/
def ir73 : IFun := ⟨2, (.seq (.region [ 
 ⟨some 0, (.alloc 105 [(.int .i64 0), (.int .i64 0)]), none⟩]) (.seq (.region [ 
 ⟨some 1, (.build [(.int .i64 0), (.int .i64 0)] [(0, (1, (.const (.int .i64 24)))), (1, (1, (.const (.int .i64 8))))]), none⟩,
 ⟨none, (.store 2 (.tmp 0) (.tmp 1)), none⟩]) .ret)), [(.cellN 2 0)]⟩
theorem ir73_ok : compFun Tryd.prog Tryd.f73 = some ir73 := by kernel_rfl

/- lockfast.lockfastref10.Decode -/
def ir74 : IFun := ⟨36, (.seq (.region [ 
 ⟨some 2, (.alloc 47 [(.int .i64 0), (.int .i64 0), (.int .i64 0), (.int .i64 0), (ub 0#64)]), none⟩,
 ⟨some 3, (.mov (.const (.bool false))), none⟩]) (.seq (.region [ 
 ⟨some 6, (.mov (.tmp 0)), none⟩,
 ⟨some 7, (.bin .rem (.tmp 6) (.const (ub 8#64))), none⟩,
 ⟨some 8, (.conv .i64 (.tmp 7)), none⟩,
 ⟨some 9, (.mov (.tmp 0)), none⟩,
 ⟨some 10, (.bin .quo (.tmp 9) (.const (ub 8#64))), none⟩,
 ⟨some 11, (.bin .rem (.tmp 10) (.const (ub 4#64))), none⟩,
 ⟨some 12, (.conv .i64 (.tmp 11)), none⟩,
 ⟨some 13, (.mov (.tmp 0)), none⟩,
 ⟨some 14, (.bin .quo (.tmp 13) (.const (ub 32#64))), none⟩,
 ⟨some 15, (.bin .rem (.tmp 14) (.const (ub 64#64))), none⟩,
 ⟨some 16, (.conv .i64 (.tmp 15)), none⟩,
 ⟨some 17, (.mov (.tmp 0)), none⟩,
 ⟨some 18, (.bin .quo (.tmp 17) (.const (ub 2048#64))), none⟩,
 ⟨some 19, (.bin .rem (.tmp 18) (.const (ub 8192#64))), none⟩,
 ⟨some 20, (.conv .i64 (.tmp 19)), none⟩,
 ⟨some 21, (.mov (.tmp 0)), none⟩,
 ⟨some 22, (.bin .quo (.tmp 21) (.const (ub 16777216#64))), none⟩,
 ⟨some 23, (.bin .rem (.tmp 22) (.const (ub 256#64))), none⟩,
 ⟨some 24, (.build [(.int .i64 0), (.int .i64 0), (.int .i64 0), (.int .i64 0), (ub 0#64)] [(0, (1, (.tmp 8))), (1, (1, (.tmp 12))), (2, (1, (.tmp 16))), (3, (1, (.tmp 20))), (4, (1, (.tmp 23)))]), none⟩,
 ⟨some 4, (.alloc 47 [(.int .i64 0), (.int .i64 0), (.int .i64 0), (.int .i64 0), (ub 0#64)]), none⟩,
 ⟨none, (.store 5 (.tmp 4) (.tmp 24)), none⟩]) (.seq (.region [ 
 ⟨some 25, (.loadN 5 (.tmp 4)), none⟩,
 ⟨some 26, (.call (.func 63) [(.tmp 25)]), none⟩,
 ⟨some 5, (.mov (.tmp 26)), none⟩]) (.seq (.seq (.region [ 
 ⟨some 27, (.mov (.tmp 5)), none⟩,
 ⟨some 28, (.un .not (.tmp 27)), none⟩,
 ⟨some 29, (.mov (.tmp 28)), none⟩,
 ⟨some 30, (.mov (.tmp 0)), (some (29, false))⟩,
 ⟨some 31, (.bin .quo (.tmp 30) (.const (ub 4294967296#64))), (some (29, false))⟩,
 ⟨some 32, (.bin .neq (.tmp 31) (.const (ub 0#64))), (some (29, false))⟩,
 ⟨some 33, (.pick (.tmp 29) (.const (.bool true)) (.tmp 32)), none⟩]) (.cond (.tmp 33) (.seq (.region [ 
 ⟨some 34, (.build [(.int .i64 0), (.int .i64 0), (.int .i64 0), (.int .i64 0), (ub 0#64)] []), none⟩,
 ⟨none, (.store 5 (.tmp 2) (.tmp 34)), none⟩,
 ⟨some 3, (.mov (.const (.bool false))), none⟩]) .ret) .skip)) (.seq (.region [ 
 ⟨some 35, (.loadN 5 (.tmp 4)), none⟩,
 ⟨none, (.store 5 (.tmp 2) (.tmp 35)), none⟩,
 ⟨some 3, (.mov (.const (.bool true))), none⟩]) .ret))))), [(.cellN 5 2), (.tmp 3)]⟩
theorem ir74_ok : compFun Tryd.prog Tryd.f74 = some ir74 := by kernel_rfl

/- lockfast.lockfastref10.power -/
def ir75 : IFun := ⟨13, (.seq (.region [ 
 ⟨some 2, (.mov (.const (ub 0#64))), none⟩]) (.seq (.region [ 
 ⟨some 3, (.mov (.const (ub 1#64))), none⟩]) (.seq (.seq (.region [ 
 ⟨some 4, (.mov (.const (.int .i64 0))), none⟩]) (.block 0 (.loop (.seq (.seq (.region [ 
 ⟨some 5, (.mov (.tmp 4)), none⟩,
 ⟨some 6, (.mov (.tmp 0)), none⟩,
 ⟨some 7, (.bin .lss (.tmp 5) (.tmp 6)), none⟩]) (.cond (.tmp 7) .skip (.exit 0))) (.seq (.block 1 (.region [ 
 ⟨some 10, (.mov (.tmp 3)), none⟩,
 ⟨some 11, (.bin .mul (.const (ub 2#64)) (.tmp 10)), none⟩,
 ⟨some 3, (.mov (.tmp 11)), none⟩])) (.region [ 
 ⟨some 8, (.mov (.tmp 4)), none⟩,
 ⟨some 9, (.bin .add (.tmp 8) (.const (.int .i64 1))), none⟩,
 ⟨some 4, (.mov (.tmp 9)), none⟩])))))) (.seq (.region [ 
 ⟨some 12, (.mov (.tmp 3)), none⟩,
 ⟨some 2, (.mov (.tmp 12)), none⟩]) .ret)))), [(.tmp 2)]⟩
theorem ir75_ok : compFun Tryd.prog Tryd.f75 = some ir75 := by kernel_rfl

/- lockfast.chunk.right -/
def ir76 : IFun := ⟨62, (.seq (.region [ 
 ⟨some 1, (.box 47 (.tmp 0)), none⟩,
 ⟨some 2, (.mov (.const (.bool false))), none⟩]) (.seq (.seq (.region [ 
 ⟨some 3, (.faddr 0 (.tmp 1)), none⟩,
 ⟨some 4, (.load1 (.tmp 3)), none⟩]) (.block 0 (.seq (.region [ 
 ⟨some 6, (.bin .eql (.tmp 4) (.const (.int .i64 1))), none⟩,
 ⟨some 5, (.mov (.tmp 6)), none⟩]) (.cond (.tmp 5) (.seq (.draw [ 
 ⟨some 7, (.faddr 1 (.tmp 1)), none⟩,
 ⟨some 8, (.load1 (.tmp 7)), none⟩,
 ⟨some 9, (.bin .geq (.tmp 8) (.const (.int .i64 0))), none⟩,
 ⟨some 10, (.mov (.tmp 9)), none⟩,
 ⟨some 11, (.faddr 1 (.tmp 1)), (some (10, true))⟩,
 ⟨some 12, (.load1 (.tmp 11)), (some (10, true))⟩,
 ⟨some 13, (.bin .lss (.tmp 12) (.const (.int .i64 3))), (some (10, true))⟩,
 ⟨some 14, (.pick (.tmp 10) (.tmp 13) (.const (.bool false))), none⟩,
 ⟨some 15, (.mov (.tmp 14)), none⟩,
 ⟨some 16, (.faddr 4 (.tmp 1)), (some (15, true))⟩,
 ⟨some 17, (.load1 (.tmp 16)), (some (15, true))⟩,
 ⟨some 18, (.faddr 1 (.tmp 1)), (some (15, true))⟩,
 ⟨some 19, (.load1 (.tmp 18)), (some (15, true))⟩,
 ⟨some 20, (.call (.func 66) [(.tmp 19)]), (some (15, true))⟩,
 ⟨some 21, (.bin .shl (.const (ub 1#64)) (.tmp 20)), (some (15, true))⟩,
 ⟨some 22, (.bin .lss (.tmp 17) (.tmp 21)), (some (15, true))⟩,
 ⟨some 23, (.pick (.tmp 15) (.tmp 22) (.const (.bool false))), none⟩,
 ⟨some 2, (.mov (.tmp 23)), none⟩] [(13, 10)]) .ret) (.seq (.region [ 
 ⟨some 25, (.bin .eql (.tmp 4) (.const (.int .i64 2))), none⟩,
 ⟨some 24, (.mov (.tmp 25)), none⟩]) (.cond (.tmp 24) (.seq (.region [ 
 ⟨some 26, (.faddr 3 (.tmp 1)), none⟩,
 ⟨some 27, (.load1 (.tmp 26)), none⟩,
 ⟨some 28, (.bin .geq (.tmp 27) (.const (.int .i64 1))), none⟩,
 ⟨some 29, (.mov (.tmp 28)), none⟩,
 ⟨some 30, (.faddr 3 (.tmp 1)), (some (29, true))⟩,
 ⟨some 31, (.load1 (.tmp 30)), (some (29, true))⟩,
 ⟨some 32, (.bin .leq (.tmp 31) (.const (.int .i64 8191))), (some (29, true))⟩,
 ⟨some 33, (.pick (.tmp 29) (.tmp 32) (.const (.bool false))), none⟩,
 ⟨some 2, (.mov (.tmp 33)), none⟩]) .ret) (.seq (.region [ 
 ⟨some 35, (.bin .eql (.tmp 4) (.const (.int .i64 4))), none⟩,
 ⟨some 34, (.mov (.tmp 35)), none⟩]) (.cond (.tmp 34) (.seq (.region [ 
 ⟨some 36, (.faddr 2 (.tmp 1)), none⟩,
 ⟨some 37, (.load1 (.tmp 36)), none⟩,
 ⟨some 38, (.bin .geq (.tmp 37) (.const (.int .i64 0))), none⟩,
 ⟨some 39, (.mov (.tmp 38)), none⟩,
 ⟨some 40, (.faddr 2 (.tmp 1)), (some (39, true))⟩,
 ⟨some 41, (.load1 (.tmp 40)), (some (39, true))⟩,
 ⟨some 42, (.bin .lss (.tmp 41) (.const (.int .i64 64))), (some (39, true))⟩,
 ⟨some 43, (.pick (.tmp 39) (.tmp 42) (.const (.bool false))), none⟩,
 ⟨some 44, (.mov (.tmp 43)), none⟩,
 ⟨some 45, (.faddr 3 (.tmp 1)), (some (44, true))⟩,
 ⟨some 46, (.load1 (.tmp 45)), (some (44, true))⟩,
 ⟨some 47, (.bin .geq (.tmp 46) (.const (.int .i64 0))), (some (44, true))⟩,
 ⟨some 48, (.pick (.tmp 44) (.tmp 47) (.const (.bool false))), none⟩,
 ⟨some 49, (.mov (.tmp 48)), none⟩,
 ⟨some 50, (.faddr 3 (.tmp 1)), (some (49, true))⟩,
 ⟨some 51, (.load1 (.tmp 50)), (some (49, true))⟩,
 ⟨some 52, (.bin .lss (.tmp 51) (.const (.int .i64 8))), (some (49, true))⟩,
 ⟨some 53, (.pick (.tmp 49) (.tmp 52) (.const (.bool false))), none⟩,
 ⟨some 2, (.mov (.tmp 53)), none⟩]) .ret) .skip)))))))) (.seq (.region [ 
 ⟨some 54, (.faddr 0 (.tmp 1)), none⟩,
 ⟨some 55, (.load1 (.tmp 54)), none⟩,
 ⟨some 56, (.bin .eql (.tmp 55) (.const (.int .i64 0))), none⟩,
 ⟨some 57, (.mov (.tmp 56)), none⟩,
 ⟨some 58, (.faddr 0 (.tmp 1)), (some (57, false))⟩,
 ⟨some 59, (.load1 (.tmp 58)), (some (57, false))⟩,
 ⟨some 60, (.bin .eql (.tmp 59) (.const (.int .i64 3))), (some (57, false))⟩,
 ⟨some 61, (.pick (.tmp 57) (.const (.bool true)) (.tmp 60)), none⟩,
 ⟨some 2, (.mov (.tmp 61)), none⟩]) .ret))), [(.tmp 2)]⟩
theorem ir76_ok : compFun Tryd.prog Tryd.f76 = some ir76 := by kernel_rfl

/- lockfast.chunk.own -/
def ir77 : IFun := ⟨33, (.seq (.region [ 
 ⟨some 1, (.box 47 (.tmp 0)), none⟩,
 ⟨some 2, (.alloc 47 [(.int .i64 0), (.int .i64 0), (.int .i64 0), (.int .i64 0), (ub 0#64)]), none⟩]) (.seq (.seq (.region [ 
 ⟨some 3, (.faddr 0 (.tmp 1)), none⟩,
 ⟨some 4, (.load1 (.tmp 3)), none⟩]) (.block 0 (.seq (.region [ 
 ⟨some 6, (.bin .eql (.tmp 4) (.const (.int .i64 1))), none⟩,
 ⟨some 5, (.mov (.tmp 6)), none⟩]) (.cond (.tmp 5) (.seq (.region [ 
 ⟨some 7, (.faddr 0 (.tmp 1)), none⟩,
 ⟨some 8, (.load1 (.tmp 7)), none⟩,
 ⟨some 9, (.faddr 1 (.tmp 1)), none⟩,
 ⟨some 10, (.load1 (.tmp 9)), none⟩,
 ⟨some 11, (.faddr 4 (.tmp 1)), none⟩,
 ⟨some 12, (.load1 (.tmp 11)), none⟩,
 ⟨some 13, (.build [(.int .i64 0), (.int .i64 0), (.int .i64 0), (.int .i64 0), (ub 0#64)] [(0, (1, (.tmp 8))), (1, (1, (.tmp 10))), (4, (1, (.tmp 12)))]), none⟩,
 ⟨none, (.store 5 (.tmp 2) (.tmp 13)), none⟩]) .ret) (.seq (.region [ 
 ⟨some 15, (.bin .eql (.tmp 4) (.const (.int .i64 2))), none⟩,
 ⟨some 14, (.mov (.tmp 15)), none⟩]) (.cond (.tmp 14) (.seq (.region [ 
 ⟨some 16, (.faddr 0 (.tmp 1)), none⟩,
 ⟨some 17, (.load1 (.tmp 16)), none⟩,
 ⟨some 18, (.faddr 3 (.tmp 1)), none⟩,
 ⟨some 19, (.load1 (.tmp 18)), none⟩,
 ⟨some 20, (.build [(.int .i64 0), (.int .i64 0), (.int .i64 0), (.int .i64 0), (ub 0#64)] [(0, (1, (.tmp 17))), (3, (1, (.tmp 19)))]), none⟩,
 ⟨none, (.store 5 (.tmp 2) (.tmp 20)), none⟩]) .ret) (.seq (.region [ 
 ⟨some 22, (.bin .eql (.tmp 4) (.const (.int .i64 4))), none⟩,
 ⟨some 21, (.mov (.tmp 22)), none⟩]) (.cond (.tmp 21) (.seq (.region [ 
 ⟨some 23, (.faddr 0 (.tmp 1)), none⟩,
 ⟨some 24, (.load1 (.tmp 23)), none⟩,
 ⟨some 25, (.faddr 2 (.tmp 1)), none⟩,
 ⟨some 26, (.load1 (.tmp 25)), none⟩,
 ⟨some 27, (.faddr 3 (.tmp 1)), none⟩,
 ⟨some 28, (.load1 (.tmp 27)), none⟩,
 ⟨some 29, (.build [(.int .i64 0), (.int .i64 0), (.int .i64 0), (.int .i64 0), (ub 0#64)] [(0, (1, (.tmp 24))), (2, (1, (.tmp 26))), (3, (1, (.tmp 28)))]), none⟩,
 ⟨none, (.store 5 (.tmp 2) (.tmp 29)), none⟩]) .ret) .skip)))))))) (.seq (.region [ 
 ⟨some 30, (.faddr 0 (.tmp 1)), none⟩,
 ⟨some 31, (.load1 (.tmp 30)), none⟩,
 ⟨some 32, (.build [(.int .i64 0), (.int .i64 0), (.int .i64 0), (.int .i64 0), (ub 0#64)] [(0, (1, (.tmp 31)))]), none⟩,
 ⟨none, (.store 5 (.tmp 2) (.tmp 32)), none⟩]) .ret))), [(.cellN 5 2)]⟩
theorem ir77_ok : compFun Tryd.prog Tryd.f77 = some ir77 := by kernel_rfl

/- lockfast.tile.each$1 -/
def ir78 : IFun := ⟨49, (.seq (.seq .skip (.seq (.region [ 
 ⟨some 7, (.load1 (.tmp 1)), none⟩,
 ⟨some 8, (.len (.tmp 7)), none⟩,
 ⟨some 9, (.mov (.const (.int .i64 0))), none⟩]) (.block 0 (.loop (.seq (.region [ 
 ⟨some 10, (.bin .lss (.tmp 9) (.tmp 8)), none⟩]) (.seq (.cond (.tmp 10) .skip (.exit 0)) (.seq (.block 1 (.seq (.region [ 
 ⟨some 11, (.mov (.tmp 9)), none⟩,
 ⟨some 12, (.iaddr 5 (.tmp 7) (.tmp 9)), none⟩,
 ⟨some 13, (.loadN 5 (.tmp 12)), none⟩,
 ⟨some 4, (.alloc 47 [(.int .i64 0), (.int .i64 0), (.int .i64 0), (.int .i64 0), (ub 0#64)]), none⟩,
 ⟨some 3, (.mov (.tmp 11)), none⟩,
 ⟨none, (.store 5 (.tmp 4) (.tmp 13)), none⟩]) (.seq (.seq (.region [ 
 ⟨some 14, (.faddr 0 (.tmp 4)), none⟩,
 ⟨some 15, (.load1 (.tmp 14)), none⟩,
 ⟨some 16, (.bin .eql (.tmp 15) (.const (.int .i64 2))), none⟩,
 ⟨some 17, (.mov (.tmp 16)), none⟩,
 ⟨some 18, (.mov (.tmp 0)), (some (17, true))⟩,
 ⟨some 19, (.mov (.tmp 3)), (some (17, true))⟩,
 ⟨some 20, (.faddr 3 (.tmp 4)), (some (17, true))⟩,
 ⟨some 21, (.load1 (.tmp 20)), (some (17, true))⟩,
 ⟨some 22, (.bin .mul (.tmp 21) (.const (.int .i64 32))), (some (17, true))⟩,
 ⟨some 23, (.build [(.int .i64 0), (.int .i64 0), (.int .i64 0)] [(0, (1, (.tmp 19))), (2, (1, (.tmp 22)))]), (some (17, true))⟩,
 ⟨some 24, (.call (.tmp 18) [(.tmp 23)]), (some (17, true))⟩,
 ⟨some 25, (.un .not (.tmp 24)), (some (17, true))⟩,
 ⟨some 26, (.pick (.tmp 17) (.tmp 25) (.const (.bool false))), none⟩]) (.cond (.tmp 26) (.exit 0) .skip)) (.seq (.draw [ 
 ⟨some 27, (.faddr 4 (.tmp 4)), none⟩,
 ⟨some 28, (.load1 (.tmp 27)), none⟩,
 ⟨some 29, (.faddr 1 (.tmp 4)), none⟩,
 ⟨some 30, (.load1 (.tmp 29)), none⟩,
 ⟨some 31, (.call (.func 66) [(.tmp 30)]), none⟩,
 ⟨some 32, (.call (.func 79) [(.tmp 28), (.tmp 31)]), none⟩,
 ⟨some 33, (.len (.tmp 32)), none⟩,
 ⟨some 34, (.mov (.const (.int .i64 0))), none⟩] [(4, 1)]) (.block 2 (.loop (.seq (.region [ 
 ⟨some 35, (.bin .lss (.tmp 34) (.tmp 33)), none⟩]) (.seq (.cond (.tmp 35) .skip (.exit 2)) (.seq (.block 3 (.seq (.region [ 
 ⟨some 36, (.iaddr 1 (.tmp 32) (.tmp 34)), none⟩,
 ⟨some 37, (.load1 (.tmp 36)), none⟩,
 ⟨some 6, (.mov (.tmp 37)), none⟩]) (.seq (.region [ 
 ⟨some 38, (.mov (.tmp 0)), none⟩,
 ⟨some 39, (.mov (.tmp 3)), none⟩,
 ⟨some 40, (.mov (.tmp 6)), none⟩,
 ⟨some 41, (.faddr 1 (.tmp 4)), none⟩,
 ⟨some 42, (.load1 (.tmp 41)), none⟩,
 ⟨some 43, (.call (.func 80) [(.tmp 42)]), none⟩,
 ⟨some 44, (.build [(.int .i64 0), (.int .i64 0), (.int .i64 0)] [(0, (1, (.tmp 39))), (1, (1, (.tmp 40))), (2, (1, (.tmp 43)))]), none⟩,
 ⟨some 45, (.call (.tmp 38) [(.tmp 44)]), none⟩,
 ⟨some 46, (.un .not (.tmp 45)), none⟩]) (.cond (.tmp 46) (.exit 0) .skip)))) (.region [ 
 ⟨some 47, (.bin .add (.tmp 34) (.const (.int .i64 1))), none⟩,
 ⟨some 34, (.mov (.tmp 47)), none⟩])))))))))) (.region [ 
 ⟨some 48, (.bin .add (.tmp 9) (.const (.int .i64 1))), none⟩,
 ⟨some 9, (.mov (.tmp 48)), none⟩])))))))) .skip), []⟩
theorem ir78_ok : compFun Tryd.prog Tryd.f78 = some ir78 := by kernel_rfl

/- lockfast.field.Places -/
def ir79 : IFun := ⟨9, (.seq (.region [ 
 ⟨some 4, (.mov (.const (.slice none 0 0))), none⟩]) (.seq (.region [ 
 ⟨some 5, (.mov (.tmp 0)), none⟩,
 ⟨some 6, (.mov (.tmp 1)), none⟩,
 ⟨some 7, (.call (.func 86) [(.tmp 5), (.tmp 6)]), none⟩,
 ⟨some 8, (.call (.func 85) [(.tmp 7)]), none⟩,
 ⟨some 4, (.mov (.tmp 8)), none⟩]) .ret)), [(.tmp 4)]⟩
theorem ir79_ok : compFun Tryd.prog Tryd.f79 = some ir79 := by kernel_rfl

/- lockfast.class.Block -/
def ir80 : IFun := ⟨12, (.seq (.region [ 
 ⟨some 2, (.mov (.const (.int .i64 0))), none⟩]) (.seq (.seq (.region [ 
 ⟨some 3, (.mov (.tmp 0)), none⟩,
 ⟨some 4, (.bin .lss (.tmp 3) (.const (.int .i64 0))), none⟩,
 ⟨some 5, (.mov (.tmp 4)), none⟩,
 ⟨some 6, (.mov (.tmp 0)), (some (5, false))⟩,
 ⟨some 7, (.bin .geq (.tmp 6) (.const (.int .i64 3))), (some (5, false))⟩,
 ⟨some 8, (.pick (.tmp 5) (.const (.bool true)) (.tmp 7)), none⟩]) (.cond (.tmp 8) (.seq (.region [ 
 ⟨some 2, (.mov (.const (.int .i64 0))), none⟩]) .ret) .skip)) (.seq (.region [ 
 ⟨some 9, (.mov (.tmp 0)), none⟩,
 ⟨some 10, (.iaddrA 3 1 (.global 0) (.tmp 9)), none⟩,
 ⟨some 11, (.load1 (.tmp 10)), none⟩,
 ⟨some 2, (.mov (.tmp 11)), none⟩]) .ret))), [(.tmp 2)]⟩
theorem ir80_ok : compFun Tryd.prog Tryd.f80 = some ir80 := by kernel_rfl

/- (*lockfast.index.Index).runs$1 -/
def ir81 : IFun := ⟨47, (.seq (.region [ 
 ⟨some 7, (.load1 (.tmp 1)), none⟩,
 ⟨some 8, (.nilck (.tmp 7)), none⟩,
 ⟨some 9, (.faddr 0 (.tmp 8)), none⟩,
 ⟨some 10, (.load1 (.tmp 9)), none⟩,
 ⟨some 11, (.len (.tmp 10)), none⟩,
 ⟨some 12, (.mov (.const (.int .i64 0))), none⟩]) (.block 0 (.loop (.seq (.region [ 
 ⟨some 13, (.bin .lss (.tmp 12) (.tmp 11)), none⟩]) (.seq (.cond (.tmp 13) .skip (.exit 0)) (.seq (.block 1 (.seq (.region [ 
 ⟨some 14, (.mov (.tmp 12)), none⟩,
 ⟨some 15, (.iaddr 6 (.tmp 10) (.tmp 12)), none⟩,
 ⟨some 16, (.loadN 6 (.tmp 15)), none⟩,
 ⟨some 5, (.alloc 75 [(.int .i64 0), (.int .i64 0), (.int .i64 0), (.int .i64 0), (ub 0#64), (ub 0#64)]), none⟩,
 ⟨some 4, (.mov (.tmp 14)), none⟩,
 ⟨none, (.store 6 (.tmp 5) (.tmp 16)), none⟩]) (.seq (.seq (.region [ 
 ⟨some 17, (.faddr 0 (.tmp 5)), none⟩,
 ⟨some 18, (.faddr 0 (.tmp 17)), none⟩,
 ⟨some 19, (.load1 (.tmp 18)), none⟩,
 ⟨some 20, (.bin .neq (.tmp 19) (.const (.int .i64 1))), none⟩,
 ⟨some 21, (.mov (.tmp 20)), none⟩,
 ⟨some 22, (.faddr 0 (.tmp 5)), (some (21, false))⟩,
 ⟨some 23, (.faddr 1 (.tmp 22)), (some (21, false))⟩,
 ⟨some 24, (.load1 (.tmp 23)), (some (21, false))⟩,
 ⟨some 25, (.load1 (.tmp 2)), (some (21, false))⟩,
 ⟨some 26, (.bin .neq (.tmp 24) (.tmp 25)), (some (21, false))⟩,
 ⟨some 27, (.pick (.tmp 21) (.const (.bool true)) (.tmp 26)), none⟩]) (.cond (.tmp 27) (.exit 1) .skip)) (.seq (.draw [ 
 ⟨some 28, (.faddr 0 (.tmp 5)), none⟩,
 ⟨some 29, (.faddr 4 (.tmp 28)), none⟩,
 ⟨some 30, (.load1 (.tmp 29)), none⟩,
 ⟨some 31, (.faddr 5 (.tmp 5)), none⟩,
 ⟨some 32, (.load1 (.tmp 31)), none⟩,
 ⟨some 33, (.bin .or (.tmp 30) (.tmp 32)), none⟩,
 ⟨some 34, (.load1 (.tmp 2)), none⟩,
 ⟨some 35, (.call (.func 66) [(.tmp 34)]), none⟩,
 ⟨some 36, (.call (.func 82) [(.tmp 33), (.tmp 35), (.const (.bool false))]), none⟩,
 ⟨some 6, (.mov (.tmp 36)), none⟩] [(7, 2), (7, 4)]) (.seq (.region [ 
 ⟨some 37, (.mov (.tmp 6)), none⟩,
 ⟨some 38, (.bin .geq (.tmp 37) (.const (.int .i64 0))), none⟩,
 ⟨some 39, (.mov (.tmp 38)), none⟩,
 ⟨some 40, (.mov (.tmp 0)), (some (39, true))⟩,
 ⟨some 41, (.mov (.tmp 4)), (some (39, true))⟩,
 ⟨some 42, (.mov (.tmp 6)), (some (39, true))⟩,
 ⟨some 43, (.call (.tmp 40) [(.tmp 41), (.tmp 42)]), (some (39, true))⟩,
 ⟨some 44, (.un .not (.tmp 43)), (some (39, true))⟩,
 ⟨some 45, (.pick (.tmp 39) (.tmp 44) (.const (.bool false))), none⟩]) (.cond (.tmp 45) .ret .skip)))))) (.region [ 
 ⟨some 46, (.bin .add (.tmp 12) (.const (.int .i64 1))), none⟩,
 ⟨some 12, (.mov (.tmp 46)), none⟩]))))))), []⟩
theorem ir81_ok : compFun Tryd.prog Tryd.f81 = some ir81 := by kernel_rfl

/- lockfast.field.First -/
def ir82 : IFun := ⟨17, (.seq (.region [ 
 ⟨some 6, (.alloc 3 [(.int .i64 0)]), none⟩]) (.seq (.seq (.region [ 
 ⟨some 8, (.mov (.tmp 2)), none⟩,
 ⟨some 9, (.un .not (.tmp 8)), none⟩]) (.cond (.tmp 9) (.region [ 
 ⟨some 10, (.mov (.tmp 0)), none⟩,
 ⟨some 11, (.un .xor (.tmp 10)), none⟩,
 ⟨some 0, (.mov (.tmp 11)), none⟩]) .skip)) (.seq (.seq (.region [ 
 ⟨some 12, (.mov (.tmp 0)), none⟩,
 ⟨some 13, (.mov (.tmp 1)), none⟩,
 ⟨some 14, (.call (.func 86) [(.tmp 12), (.tmp 13)]), none⟩]) (.block 0 (.rangeF (.tmp 14) [15] (.region [ 
 ⟨some 7, (.mov (.tmp 15)), none⟩]) (.block 1 (.seq (.region [ 
 ⟨some 16, (.mov (.tmp 7)), none⟩,
 ⟨none, (.store 1 (.tmp 6) (.tmp 16)), none⟩]) .ret))))) (.seq (.region [
 ⟨none, (.store 1 (.tmp 6) (.const (.int .i64 (-1)))), none⟩]) .ret)))), [(.cell1 6)]⟩
theorem ir82_ok : compFun Tryd.prog Tryd.f82 = some ir82 := by kernel_rfl

/- (lockfast.chunk.place).put -/
def ir83 : IFun := ⟨14, (.seq (.region [ 
 ⟨some 3, (.box 105 (.tmp 0)), none⟩,
 ⟨some 6, (.mov (.const (ub 0#64))), none⟩]) (.seq (.region [ 
 ⟨some 7, (.mov (.tmp 1)), none⟩,
 ⟨some 8, (.faddr 0 (.tmp 3)), none⟩,
 ⟨some 9, (.load1 (.tmp 8)), none⟩,
 ⟨some 10, (.faddr 1 (.tmp 3)), none⟩,
 ⟨some 11, (.load1 (.tmp 10)), none⟩,
 ⟨some 12, (.mov (.tmp 2)), none⟩,
 ⟨some 13, (.call (.func 87) [(.tmp 7), (.tmp 9), (.tmp 11), (.tmp 12)]), none⟩,
 ⟨some 6, (.mov (.tmp 13)), none⟩]) .ret)), [(.tmp 6)]⟩
theorem ir83_ok : compFun Tryd.prog Tryd.f83 = some ir83 := by kernel_rfl

/- lockfast.field.Get -/
def ir84 : IFun := ⟨17, (.seq (.region [ 
 ⟨some 6, (.mov (.const (ub 0#64))), none⟩]) (.seq (.seq (.region [ 
 ⟨some 7, (.mov (.tmp 1)), none⟩,
 ⟨some 8, (.mov (.tmp 2)), none⟩,
 ⟨some 9, (.call (.func 88) [(.tmp 7), (.tmp 8)]), none⟩,
 ⟨some 10, (.un .not (.tmp 9)), none⟩]) (.cond (.tmp 10) (.seq (.region [ 
 ⟨some 6, (.mov (.const (ub 0#64))), none⟩]) .ret) .skip)) (.seq (.draw [ 
 ⟨some 11, (.mov (.tmp 0)), none⟩,
 ⟨some 12, (.mov (.tmp 1)), none⟩,
 ⟨some 13, (.bin .shr (.tmp 11) (.tmp 12)), none⟩,
 ⟨some 14, (.mov (.tmp 2)), none⟩,
 ⟨some 15, (.call (.func 89) [(.tmp 14)]), none⟩,
 ⟨some 16, (.bin .and (.tmp 13) (.tmp 15)), none⟩,
 ⟨some 6, (.mov (.tmp 16)), none⟩] []) .ret))), [(.tmp 6)]⟩
theorem ir84_ok : compFun Tryd.prog Tryd.f84 = some ir84 := by kernel_rfl

/- slices.Collect[int] -/
def ir85 : IFun := ⟨5, (.seq (.region [ 
 ⟨some 2, (.mov (.const (.slice none 0 0))), none⟩]) (.seq (.region [ 
 ⟨some 3, (.mov (.tmp 0)), none⟩,
 ⟨some 4, (.call (.func 90) [(.const (.slice none 0 0)), (.tmp 3)]), none⟩,
 ⟨some 2, (.mov (.tmp 4)), none⟩]) .ret)), [(.tmp 2)]⟩
theorem ir85_ok : compFun Tryd.prog Tryd.f85 = some ir85 := by kernel_rfl

/- lockfast.field.each -/
def ir86 : IFun := ⟨6, (.seq (.region [ 
 ⟨some 2, (.box 45 (.tmp 0)), none⟩,
 ⟨some 3, (.box 3 (.tmp 1)), none⟩,
 ⟨some 4, (.mov (.const .nilFunc)), none⟩]) (.seq (.region [ 
 ⟨some 5, (.mkfn 91 [] [(.tmp 3), (.tmp 2)]), none⟩,
 ⟨some 4, (.mov (.tmp 5)), none⟩]) .ret)), [(.tmp 4)]⟩
theorem ir86_ok : compFun Tryd.prog Tryd.f86 = some ir86 := by kernel_rfl

/- lockfast.field.Put -/
def ir87 : IFun := ⟨28, (.seq (.region [ 
 ⟨some 8, (.mov (.const (ub 0#64))), none⟩]) (.seq (.seq (.region [ 
 ⟨some 10, (.mov (.tmp 1)), none⟩,
 ⟨some 11, (.mov (.tmp 2)), none⟩,
 ⟨some 12, (.call (.func 88) [(.tmp 10), (.tmp 11)]), none⟩,
 ⟨some 13, (.un .not (.tmp 12)), none⟩]) (.cond (.tmp 13) (.seq (.region [ 
 ⟨some 14, (.mov (.tmp 0)), none⟩,
 ⟨some 8, (.mov (.tmp 14)), none⟩]) .ret) .skip)) (.seq (.region [ 
 ⟨some 15, (.mov (.tmp 2)), none⟩,
 ⟨some 16, (.call (.func 89) [(.tmp 15)]), none⟩,
 ⟨some 17, (.mov (.tmp 1)), none⟩,
 ⟨some 18, (.bin .shl (.tmp 16) (.tmp 17)), none⟩,
 ⟨some 9, (.mov (.tmp 18)), none⟩]) (.seq (.region [ 
 ⟨some 19, (.mov (.tmp 0)), none⟩,
 ⟨some 20, (.mov (.tmp 9)), none⟩,
 ⟨some 21, (.bin .andNot (.tmp 19) (.tmp 20)), none⟩,
 ⟨some 22, (.mov (.tmp 3)), none⟩,
 ⟨some 23, (.mov (.tmp 1)), none⟩,
 ⟨some 24, (.bin .shl (.tmp 22) (.tmp 23)), none⟩,
 ⟨some 25, (.mov (.tmp 9)), none⟩,
 ⟨some 26, (.bin .and (.tmp 24) (.tmp 25)), none⟩,
 ⟨some 27, (.bin .or (.tmp 21) (.tmp 26)), none⟩,
 ⟨some 8, (.mov (.tmp 27)), none⟩]) .ret)))), [(.tmp 8)]⟩
theorem ir87_ok : compFun Tryd.prog Tryd.f87 = some ir87 := by kernel_rfl

/- lockfast.field.Fits -/
def ir88 : IFun := ⟨21, (.seq (.region [ 
 ⟨some 4, (.mov (.const (.bool false))), none⟩]) (.seq (.region [ 
 ⟨some 5, (.mov (.tmp 0)), none⟩,
 ⟨some 6, (.bin .geq (.tmp 5) (.const (.int .i64 0))), none⟩,
 ⟨some 7, (.mov (.tmp 6)), none⟩,
 ⟨some 8, (.mov (.tmp 0)), (some (7, true))⟩,
 ⟨some 9, (.bin .lss (.tmp 8) (.const (.int .i64 64))), (some (7, true))⟩,
 ⟨some 10, (.pick (.tmp 7) (.tmp 9) (.const (.bool false))), none⟩,
 ⟨some 11, (.mov (.tmp 10)), none⟩,
 ⟨some 12, (.mov (.tmp 1)), (some (11, true))⟩,
 ⟨some 13, (.bin .geq (.tmp 12) (.const (.int .i64 1))), (some (11, true))⟩,
 ⟨some 14, (.pick (.tmp 11) (.tmp 13) (.const (.bool false))), none⟩,
 ⟨some 15, (.mov (.tmp 14)), none⟩,
 ⟨some 16, (.mov (.tmp 1)), (some (15, true))⟩,
 ⟨some 17, (.mov (.tmp 0)), (some (15, true))⟩,
 ⟨some 18, (.bin .sub (.const (.int .i64 64)) (.tmp 17)), (some (15, true))⟩,
 ⟨some 19, (.bin .leq (.tmp 16) (.tmp 18)), (some (15, true))⟩,
 ⟨some 20, (.pick (.tmp 15) (.tmp 19) (.const (.bool false))), none⟩,
 ⟨some 4, (.mov (.tmp 20)), none⟩]) .ret)), [(.tmp 4)]⟩
theorem ir88_ok : compFun Tryd.prog Tryd.f88 = some ir88 := by kernel_rfl

/- lockfast.field.mask -/
def ir89 : IFun := ⟨6, (.seq (.region [ 
 ⟨some 2, (.mov (.const (ub 0#64))), none⟩]) (.seq (.region [ 
 ⟨some 3, (.mov (.tmp 0)), none⟩,
 ⟨some 4, (.bin .sub (.const (.int .i64 64)) (.tmp 3)), none⟩,
 ⟨some 5, (.bin .shr (.const (ub 18446744073709551615#64)) (.tmp 4)), none⟩,
 ⟨some 2, (.mov (.tmp 5)), none⟩]) .ret)), [(.tmp 2)]⟩
theorem ir89_ok : compFun Tryd.prog Tryd.f89 = some ir89 := by kernel_rfl

/- slices.AppendSeq[[]int,int] -/
def ir90 : IFun := ⟨13, (.seq (.region [ 
 ⟨some 2, (.box 110 (.tmp 0)), none⟩,
 ⟨some 4, (.mov (.const (.slice none 0 0))), none⟩]) (.seq (.seq (.region [ 
 ⟨some 6, (.mov (.tmp 1)), none⟩]) (.block 0 (.rangeF (.tmp 6) [7] (.region [ 
 ⟨some 5, (.mov (.tmp 7)), none⟩]) (.block 1 (.region [ 
 ⟨some 8, (.load1 (.tmp 2)), none⟩,
 ⟨some 9, (.mov (.tmp 5)), none⟩,
 ⟨some 10, (.bslice 3 [(.int .i64 0)] 1 [(0, (1, (.tmp 9)))]), none⟩,
 ⟨some 11, (.app 3 1 8 (.tmp 8) (.tmp 10)), none⟩,
 ⟨none, (.store 1 (.tmp 2) (.tmp 11)), none⟩]))))) (.seq (.region [ 
 ⟨some 12, (.load1 (.tmp 2)), none⟩,
 ⟨some 4, (.mov (.tmp 12)), none⟩]) .ret))), [(.tmp 4)]⟩
theorem ir90_ok : compFun Tryd.prog Tryd.f90 = some ir90 := by kernel_rfl

/- lockfast.field.each$1 -/
def ir91 : IFun := ⟨22, (.seq (.region [ 
 ⟨some 5, (.load1 (.tmp 1)), none⟩,
 ⟨some 6, (.call (.func 92) [(.tmp 5)]), none⟩,
 ⟨some 7, (.mov (.const (.int .i64 0))), none⟩]) (.block 0 (.loop (.seq (.region [ 
 ⟨some 8, (.bin .lss (.tmp 7) (.tmp 6)), none⟩]) (.seq (.cond (.tmp 8) .skip (.exit 0)) (.seq (.block 1 (.seq (.region [ 
 ⟨some 9, (.mov (.tmp 7)), none⟩,
 ⟨some 4, (.mov (.tmp 9)), none⟩]) (.seq (.region [ 
 ⟨some 10, (.load1 (.tmp 2)), none⟩,
 ⟨some 11, (.mov (.tmp 4)), none⟩,
 ⟨some 12, (.bin .shr (.tmp 10) (.tmp 11)), none⟩,
 ⟨some 13, (.bin .and (.tmp 12) (.const (ub 1#64))), none⟩,
 ⟨some 14, (.bin .eql (.tmp 13) (.const (ub 1#64))), none⟩,
 ⟨some 15, (.mov (.tmp 14)), none⟩,
 ⟨some 16, (.mov (.tmp 0)), (some (15, true))⟩,
 ⟨some 17, (.mov (.tmp 4)), (some (15, true))⟩,
 ⟨some 18, (.call (.tmp 16) [(.tmp 17)]), (some (15, true))⟩,
 ⟨some 19, (.un .not (.tmp 18)), (some (15, true))⟩,
 ⟨some 20, (.pick (.tmp 15) (.tmp 19) (.const (.bool false))), none⟩]) (.cond (.tmp 20) .ret .skip)))) (.region [ 
 ⟨some 21, (.bin .add (.tmp 7) (.const (.int .i64 1))), none⟩,
 ⟨some 7, (.mov (.tmp 21)), none⟩]))))))), []⟩
theorem ir91_ok : compFun Tryd.prog Tryd.f91 = some ir91 := by kernel_rfl

/- lockfast.field.held -/
def ir92 : IFun := ⟨6, (.seq (.region [ 
 ⟨some 2, (.mov (.const (.int .i64 0))), none⟩]) (.seq (.region [ 
 ⟨some 3, (.mov (.tmp 0)), none⟩,
 ⟨some 4, (.minmax false (.tmp 3) (.const (.int .i64 64))), none⟩,
 ⟨some 5, (.minmax true (.const (.int .i64 0)) (.tmp 4)), none⟩,
 ⟨some 2, (.mov (.tmp 5)), none⟩]) .ret)), [(.tmp 2)]⟩
theorem ir92_ok : compFun Tryd.prog Tryd.f92 = some ir92 := by kernel_rfl

end Go.Am.YtdcppkhobfbpeaaDoor
