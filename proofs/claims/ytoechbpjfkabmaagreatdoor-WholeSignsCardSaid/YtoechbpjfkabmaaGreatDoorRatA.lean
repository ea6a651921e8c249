/-
  The lowered code of rat and of the functions of texts that it calls, each equal to what the program's form lowers to. No conditions.
-/
import Derived.Test.YtoechbpjfkabmaaGreatDoorAbsTwo
import Derived.Test.YtoechbpjfkabmaaGreatDoorProg
import Derived.Test.YtoechbpjfkabmaaGreatDoorNatA
import Derived.KernelRfl
set_option linter.unusedSimpArgs false
set_option linter.unusedVariables false
set_option linter.constructorNameAsVariable false

/-
  The lowered code of the functions, as the program's form has it.
-/
namespace Go.Proofs.YtoechbpjfkabmaaGreatDoor
open Go Go.Abs
end Go.Proofs.YtoechbpjfkabmaaGreatDoor
