/-
  What the reference's small, ParseNat and TextNat compute. No conditions beyond the lemmas' own hypotheses.
-/
import Derived.Test.YtgdpephlpdonnaaGreatDoorRefO
import Derived.Test.YtgdpephlpdonnaaGreatDoorNatI
import Derived.Test.YtgdpephlpdonnaaGreatDoorNatE
import Derived.Test.YtgdpephlpdonnaaGreatDoorNatH
set_option linter.unusedSimpArgs false
set_option linter.unusedVariables false
set_option linter.constructorNameAsVariable false

/-
  The reference: a text's number.
-/
namespace Go.Proofs.YtgdpephlpdonnaaGreatDoor
open Go Go.Abs Go.Limbs
variable {base : Prot}
set_option maxRecDepth 20000
attribute [local irreducible] vc
attribute [local simp] pureS touchV freezeL fuel shiftV u64 au
/-! ### small -/
end Go.Proofs.YtgdpephlpdonnaaGreatDoor

/-
  The reference: a number read from a text.
-/
namespace Go.Proofs.YtgdpephlpdonnaaGreatDoor
open Go Go.Abs Go.Limbs
variable {base : Prot}
set_option maxRecDepth 20000
attribute [local irreducible] vc
attribute [local simp] pureS touchV freezeL fuel shiftV u64 au
end Go.Proofs.YtgdpephlpdonnaaGreatDoor

/-
  The reference: trim's own array; the text of a number.
-/
namespace Go.Proofs.YtgdpephlpdonnaaGreatDoor
open Go Go.Abs Go.Limbs
variable {base : Prot}
set_option maxRecDepth 20000
attribute [local irreducible] vc
attribute [local simp] pureS touchV freezeL fuel shiftV u64 au
end Go.Proofs.YtgdpephlpdonnaaGreatDoor
