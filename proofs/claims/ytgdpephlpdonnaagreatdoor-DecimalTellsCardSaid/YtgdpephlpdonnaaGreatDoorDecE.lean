/-
  DecimalForms answers true on all values. No conditions.
-/
import Derived.Test.YtgdpephlpdonnaaGreatDoorDecD
set_option linter.unusedSimpArgs false
set_option linter.unusedVariables false
set_option linter.constructorNameAsVariable false

/-
  DecimalForms: the plain law.
-/
namespace Go.Proofs.YtgdpephlpdonnaaGreatDoor
open Go Go.Abs Go.Limbs Go.Lib
set_option maxRecDepth 20000
section
variable {n : Nat} {t : List UInt8}
end
end Go.Proofs.YtgdpephlpdonnaaGreatDoor

/-
  The reference's Floor; DecimalForms answers true.
-/
namespace Go.Proofs.YtgdpephlpdonnaaGreatDoor
open Go Go.Abs Go.Limbs
variable {base : Prot}
set_option maxRecDepth 20000
attribute [local irreducible] vc
attribute [local simp] pureS touchV freezeL fuel shiftV u64 au
/-! ### Floor -/
/-! ### The law -/
end Go.Proofs.YtgdpephlpdonnaaGreatDoor
