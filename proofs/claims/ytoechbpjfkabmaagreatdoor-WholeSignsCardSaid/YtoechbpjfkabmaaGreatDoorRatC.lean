/-
  What rat's functions compute: what is one, lowest terms, the order, signs, sums, products, quotients, fractions of whole numbers. No conditions beyond the lemmas' own hypotheses.
-/
import Derived.Test.YtoechbpjfkabmaaGreatDoorRatA
import Derived.Test.YtoechbpjfkabmaaGreatDoorRatB
set_option linter.unusedSimpArgs false
set_option linter.unusedVariables false
set_option linter.constructorNameAsVariable false

/-
  rat: what is one, lowest terms, the order, signs.
-/
namespace Go.Proofs.YtoechbpjfkabmaaGreatDoor
open Go Go.Abs Go.Limbs
variable {base : Prot}
set_option maxRecDepth 20000
attribute [local irreducible] vc
attribute [local simp] pureS touchV freezeL fuel shiftV u64 au
/-! ### one, Zero, num, den -/
/-! ### Valid -/
/-! ### Lowest terms -/
end Go.Proofs.YtoechbpjfkabmaaGreatDoor

/-
  rat: the order, signs, sums, products, quotients.
-/
namespace Go.Proofs.YtoechbpjfkabmaaGreatDoor
open Go Go.Abs Go.Limbs
variable {base : Prot}
set_option maxRecDepth 20000
attribute [local irreducible] vc
attribute [local simp] pureS touchV freezeL fuel shiftV u64 au
end Go.Proofs.YtoechbpjfkabmaaGreatDoor

/-
  rat: differences, products, quotients.
-/
namespace Go.Proofs.YtoechbpjfkabmaaGreatDoor
open Go Go.Abs Go.Limbs
variable {base : Prot}
set_option maxRecDepth 20000
attribute [local irreducible] vc
attribute [local simp] pureS touchV freezeL fuel shiftV u64 au
end Go.Proofs.YtoechbpjfkabmaaGreatDoor

/-
  rat: fractions of whole numbers and of ints; the whole numbers below and above; a number between two.
-/
namespace Go.Proofs.YtoechbpjfkabmaaGreatDoor
open Go Go.Abs Go.Limbs
variable {base : Prot}
set_option maxRecDepth 20000
attribute [local irreducible] vc
attribute [local simp] pureS touchV freezeL fuel shiftV u64 au
/-! ### Fractions of whole numbers -/
/-! ### Fractions of ints -/
/-! ### The whole number below -/
end Go.Proofs.YtoechbpjfkabmaaGreatDoor
