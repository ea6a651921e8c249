/-
  The lowered code of the functions of texts, each equal to what the program's form lowers to. No conditions.
-/
import Derived.Test.YtepfpgnjpkcgmaaAbsTwo
import Derived.Test.YtepfpgnjpkcgmaaProg
import Derived.Test.YtepfpgnjpkcgmaaNatA
import Derived.KernelRfl
set_option linter.unusedSimpArgs false
set_option linter.unnecessarySimpa false
set_option linter.unusedVariables false
set_option linter.constructorNameAsVariable false

/-
  The lowered code of the functions, as the program's form has it.
-/
namespace Go.Proofs.Ytepfpgnjpkcgmaa
open Go Go.Abs
def lf40_B0 : LCode := .block 0 (
  .loop (
   .seq (
    .seq (
     .region [
       ⟨(some 11), none, .mov (.tmp 5)⟩,
       ⟨(some 12), none, .mov (.tmp 0)⟩,
       ⟨(some 13), none, .len (.tmp 12)⟩,
       ⟨(some 14), none, .bin .lss (.tmp 11) (.tmp 13)⟩]) (
     .cond (.tmp 14) (
      .skip) (
      .exit 0))) (
    .seq (
     .block 1 (
      .seq (
       .regionD [
         ⟨(some 17), none, .mov (.tmp 0)⟩,
         ⟨(some 18), none, .mov (.tmp 5)⟩,
         ⟨(some 19), none, .iadr 1 (.tmp 17) (.tmp 18)⟩,
         ⟨(some 20), none, .load 1 false (.tmp 19)⟩,
         ⟨(some 21), none, .mov (.tmp 1)⟩,
         ⟨(some 22), none, .mov (.tmp 5)⟩,
         ⟨(some 23), none, .iadr 1 (.tmp 21) (.tmp 22)⟩,
         ⟨(some 24), none, .load 1 false (.tmp 23)⟩,
         ⟨(some 25), none, .bin .neq (.tmp 20) (.tmp 24)⟩]) (
       .cond (.tmp 25) (
        .seq (
         .region [
           ⟨(some 4), none, .mov (.cst (.p (.bool false)))⟩]) (
         .ret)) (
        .skip)))) (
     .region [
       ⟨(some 15), none, .mov (.tmp 5)⟩,
       ⟨(some 16), none, .bin .add (.tmp 15) (.cst (.p (.int .i64 1)))⟩,
       ⟨(some 5), none, .mov (.tmp 16)⟩]))))
def lf40 : LFunc := ⟨26,[.slot 4], .seq (.region [⟨some 4,none,.mov (.cst (.p (.bool false)))⟩]) (.seq (.seq (.region [⟨some 6,none,.mov (.tmp 0)⟩,⟨some 7,none,.len (.tmp 6)⟩,⟨some 8,none,.mov (.tmp 1)⟩,⟨some 9,none,.len (.tmp 8)⟩,⟨some 10,none,.bin .neq (.tmp 7) (.tmp 9)⟩]) (.cond (.tmp 10) (.seq (.region [⟨some 4,none,.mov (.cst (.p (.bool false)))⟩]) (.ret)) (.skip))) (.seq (.seq (.region [⟨some 5,none,.mov (.cst (.p (.int .i64 0)))⟩]) (lf40_B0)) (.seq (.region [⟨some 4,none,.mov (.cst (.p (.bool true)))⟩]) (.ret))))⟩
theorem low40 : lowFunc Try.prog gl0 40 = some lf40 := lowF (by kernel_rfl)
end Go.Proofs.Ytepfpgnjpkcgmaa
