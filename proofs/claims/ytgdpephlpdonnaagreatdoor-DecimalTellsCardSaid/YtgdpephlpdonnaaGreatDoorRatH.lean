/-
  RatField answers true on all values. No conditions.
-/
import Derived.Test.YtgdpephlpdonnaaGreatDoorRatG
set_option linter.unusedSimpArgs false
set_option linter.unusedVariables false
set_option linter.constructorNameAsVariable false

/-
  law3: same and few; RatField, RatFloors, RatInts answer true.
-/
namespace Go.Proofs.YtgdpephlpdonnaaGreatDoor
open Go Go.Abs Go.Limbs
variable {base : Prot}
set_option maxRecDepth 20000
attribute [local irreducible] vc
attribute [local simp] pureS touchV freezeL fuel shiftV u64 au
end Go.Proofs.YtgdpephlpdonnaaGreatDoor
