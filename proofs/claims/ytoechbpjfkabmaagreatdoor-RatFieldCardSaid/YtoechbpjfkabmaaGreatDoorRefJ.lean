/-
  The lowered code of the reference, each equal to what the program's form lowers to. No conditions.
-/
import Derived.Test.YtoechbpjfkabmaaGreatDoorAbsTwo
import Derived.Test.YtoechbpjfkabmaaGreatDoorProg
import Derived.Test.YtoechbpjfkabmaaGreatDoorNatA
import Derived.KernelRfl
set_option linter.unusedSimpArgs false
set_option linter.unusedVariables false
set_option linter.constructorNameAsVariable false

/-
  The lowered code of the functions, as the program's form has it.
-/
namespace Go.Proofs.YtoechbpjfkabmaaGreatDoor
open Go Go.Abs
def lf106_B0 : LCode := .block 0 (
  .loop (
   .seq (
    .seq (
     .region [
       ⟨(some 6), none, .mov (.tmp 3)⟩,
       ⟨(some 7), none, .bin .gtr (.tmp 6) (.cst (.p (.int .i64 0)))⟩,
       ⟨(some 8), none, .mov (.tmp 7)⟩,
       ⟨(some 9), (some (8, true)), .mov (.tmp 0)⟩,
       ⟨(some 10), (some (8, true)), .mov (.tmp 3)⟩,
       ⟨(some 11), (some (8, true)), .bin .sub (.tmp 10) (.cst (.p (.int .i64 1)))⟩,
       ⟨(some 12), (some (8, true)), .iadr 1 (.tmp 9) (.tmp 11)⟩,
       ⟨(some 13), (some (8, true)), .load 1 false (.tmp 12)⟩,
       ⟨(some 14), (some (8, true)), .bin .eql (.tmp 13) (.cst (.p (.int .u64 0)))⟩,
       ⟨(some 15), none, .pick (.tmp 8) (.tmp 14) (.cst (.p (.bool false)))⟩]) (
     .cond (.tmp 15) (
      .skip) (
      .exit 0))) (
    .block 1 (
     .region [
       ⟨(some 16), none, .mov (.tmp 3)⟩,
       ⟨(some 17), none, .bin .sub (.tmp 16) (.cst (.p (.int .i64 1)))⟩,
       ⟨(some 3), none, .mov (.tmp 17)⟩]))))
def lf106 : LFunc := ⟨23,[.slot 2], .seq (.region [⟨some 2,none,.mov (.cst (.tight []))⟩]) (.seq (.region [⟨some 4,none,.mov (.tmp 0)⟩,⟨some 5,none,.len (.tmp 4)⟩,⟨some 3,none,.mov (.tmp 5)⟩]) (.seq (lf106_B0) (.seq (.region [⟨some 18,none,.buildSl 1 53 (.p (.int .u64 0)) 0 []⟩,⟨some 19,none,.mov (.tmp 0)⟩,⟨some 20,none,.mov (.tmp 3)⟩,⟨some 21,none,.slSl 1 (.tmp 19) none (some (.tmp 20)) none⟩,⟨some 22,none,.app 1 8 53 (.tmp 18) (.tmp 21)⟩,⟨some 2,none,.mov (.tmp 22)⟩]) (.ret))))⟩
theorem low106 : lowFunc Tryz.prog gl0 106 = some lf106 := by kernel_rfl
end Go.Proofs.YtoechbpjfkabmaaGreatDoor
