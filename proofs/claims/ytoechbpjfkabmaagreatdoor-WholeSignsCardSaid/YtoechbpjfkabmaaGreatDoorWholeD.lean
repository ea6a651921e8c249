/-
  What the reference's functions of whole numbers compute. No conditions beyond the lemmas' own hypotheses.
-/
import Derived.Test.YtoechbpjfkabmaaGreatDoorWholeIB
import Derived.Test.YtoechbpjfkabmaaGreatDoorRefO
set_option linter.unusedSimpArgs false
set_option linter.unusedVariables false
set_option linter.constructorNameAsVariable false

/-
  The reference's whole numbers.
-/
namespace Go.Proofs.YtoechbpjfkabmaaGreatDoor
open Go Go.Abs Go.Limbs
variable {base : Prot}
set_option maxRecDepth 20000
attribute [local irreducible] vc
attribute [local simp] pureS touchV freezeL fuel shiftV u64 au
end Go.Proofs.YtoechbpjfkabmaaGreatDoor
