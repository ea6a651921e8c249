/-
  What strings.Cut and strings.Trim compute at one byte, and rat.Parse, for texts of at most 80000 bytes.
-/
import Derived.Test.YtgbjjikaenlkmaaGreatRatD
import Derived.Test.YtgbjjikaenlkmaaGreatWholeD
import Derived.Test.YtgbjjikaenlkmaaGreatRatA
import Derived.Lib.Bytealg
import Derived.Laws.Externs
set_option linter.unusedSimpArgs false
set_option linter.unnecessarySimpa false
set_option linter.unusedVariables false
set_option linter.constructorNameAsVariable false

/-
 strings.Cut at a slash; strings.Trim of noughts; rat.Parse.
-/
namespace Go.Proofs.YtgbjjikaenlkmaaGreat
open Go Go.Abs Go.Limbs
variable {base : Prot}
set_option maxRecDepth 20000
attribute [local irreducible] vc
attribute [local simp] pureS touchV freezeL fuel shiftV u64 au
def lowF (neg : Bool) (n d : List Nat × Nat) : Fr × Nat := if n.2 = 0 ∧ d.2 = 0 then heldQ (mkRat (zOf neg (val n.1)) (val d.1)) else (zF, 4)
end Go.Proofs.YtgbjjikaenlkmaaGreat

/-
 rat: Parse of Text: the plain law.
-/
namespace Go.Proofs.YtgbjjikaenlkmaaGreat
open Go Go.Abs Go.Limbs Go.Lib
set_option maxRecDepth 20000
end Go.Proofs.YtgbjjikaenlkmaaGreat

/-
 strings.Cut at a byte, strings.Trim and TrimRight of noughts.
-/
namespace Go.Proofs.YtgbjjikaenlkmaaGreat
open Go Go.Abs Go.Limbs
variable {base : Prot}
set_option maxRecDepth 20000
attribute [local irreducible] vc
attribute [local simp] pureS touchV freezeL fuel shiftV u64 au
end Go.Proofs.YtgbjjikaenlkmaaGreat

/-
 rat.Parse.
-/
namespace Go.Proofs.YtgbjjikaenlkmaaGreat
open Go Go.Abs Go.Limbs
variable {base : Prot}
set_option maxRecDepth 20000
attribute [local irreducible] vc
attribute [local simp] pureS touchV freezeL fuel shiftV u64 au
end Go.Proofs.YtgbjjikaenlkmaaGreat
