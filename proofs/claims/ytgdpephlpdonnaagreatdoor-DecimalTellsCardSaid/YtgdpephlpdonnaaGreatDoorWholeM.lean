/-
  The lowered code of whole and the reference's whole numbers, each equal to what the program's form lowers to. No conditions.
-/
import Derived.Test.YtgdpephlpdonnaaGreatDoorAbsTwo
import Derived.Test.YtgdpephlpdonnaaGreatDoorProg
import Derived.Test.YtgdpephlpdonnaaGreatDoorNatA
import Derived.KernelRfl
set_option linter.unusedSimpArgs false
set_option linter.unusedVariables false
set_option linter.constructorNameAsVariable false

/-
  The lowered code of the functions, as the program's form has it.
-/
namespace Go.Proofs.YtgdpephlpdonnaaGreatDoor
open Go Go.Abs
def lf19 : LFunc := ⟨16,[.cell 2 2 true], .seq (.region [⟨some 2,none,.newv 2 45 (.cst (.agg [.p (.bool false),.tight []]))⟩]) (.seq (.region [⟨some 4,none,.mov (.tmp 0)⟩,⟨some 5,none,.conv (.toInt .u64) (.tmp 4)⟩,⟨some 3,none,.mov (.tmp 5)⟩]) (.seq (.seq (.region [⟨some 6,none,.mov (.tmp 0)⟩,⟨some 7,none,.bin .lss (.tmp 6) (.cst (.p (.int .i64 0)))⟩]) (.cond (.tmp 7) (.region [⟨some 8,none,.mov (.tmp 3)⟩,⟨some 9,none,.un .neg (.tmp 8)⟩,⟨some 3,none,.mov (.tmp 9)⟩]) (.skip))) (.seq (.region [⟨some 10,none,.mov (.tmp 0)⟩,⟨some 11,none,.bin .lss (.tmp 10) (.cst (.p (.int .i64 0)))⟩,⟨some 12,none,.mov (.tmp 3)⟩,⟨some 13,none,.buildSl 1 40 (.p (.int .u64 0)) 1 [(0,(.tmp 12))]⟩,⟨some 14,none,.call 54 [.tmp 13]⟩,⟨some 15,none,.call 53 [.tmp 11,.tmp 14]⟩,⟨none,none,.store 2 (.tmp 2) (.tmp 15)⟩]) (.ret))))⟩
theorem low19 : lowFunc Tryz.prog gl0 19 = some lf19 := by kernel_rfl
def lf52 : LFunc := ⟨17,[.slot 2], .seq (.region [⟨some 1,none,.newv 2 45 (.tmp 0)⟩,⟨some 2,none,.mov (.cst (.p (.bool false)))⟩]) (.seq (.region [⟨some 3,none,.fadr 1 (.tmp 1)⟩,⟨some 4,none,.load 1 false (.tmp 3)⟩,⟨some 5,none,.call 51 [.tmp 4]⟩,⟨some 6,none,.mov (.tmp 5)⟩,⟨some 7,some (6,true),.fadr 0 (.tmp 1)⟩,⟨some 8,some (6,true),.load 1 false (.tmp 7)⟩,⟨some 9,some (6,true),.un .not (.tmp 8)⟩,⟨some 10,some (6,true),.mov (.tmp 9)⟩,⟨some 11,some (10,false),.fadr 1 (.tmp 1)⟩,⟨some 12,some (10,false),.load 1 false (.tmp 11)⟩,⟨some 13,some (10,false),.len (.tmp 12)⟩,⟨some 14,some (10,false),.bin .gtr (.tmp 13) (.cst (.p (.int .i64 0)))⟩,⟨some 15,some (6,true),.pick (.tmp 10) (.cst (.p (.bool true))) (.tmp 14)⟩,⟨some 16,none,.pick (.tmp 6) (.tmp 15) (.cst (.p (.bool false)))⟩,⟨some 2,none,.mov (.tmp 16)⟩]) (.ret))⟩
theorem low52 : lowFunc Tryz.prog gl0 52 = some lf52 := by kernel_rfl
def lf53 : LFunc := ⟨13,[.cell 4 2 true], .seq (.region [⟨some 4,none,.newv 2 45 (.cst (.agg [.p (.bool false),.tight []]))⟩]) (.seq (.region [⟨some 5,none,.mov (.tmp 0)⟩,⟨some 6,none,.mov (.tmp 5)⟩,⟨some 7,some (6,true),.mov (.tmp 1)⟩,⟨some 8,some (6,true),.len (.tmp 7)⟩,⟨some 9,some (6,true),.bin .gtr (.tmp 8) (.cst (.p (.int .i64 0)))⟩,⟨some 10,none,.pick (.tmp 6) (.tmp 9) (.cst (.p (.bool false)))⟩,⟨some 11,none,.mov (.tmp 1)⟩,⟨some 12,none,.build (.agg [.p (.bool false),.tight []]) [(0,1,(.tmp 10)),(1,1,(.tmp 11))]⟩,⟨none,none,.store 2 (.tmp 4) (.tmp 12)⟩]) (.ret))⟩
theorem low53 : lowFunc Tryz.prog gl0 53 = some lf53 := by kernel_rfl
end Go.Proofs.YtgdpephlpdonnaaGreatDoor
