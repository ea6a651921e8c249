/-
  What rat's functions compute, part 3. AcvNo conditions beyond the lemmas' own hypotheses.
-/
import Derived.Test.YtbdccebpehogjaaRatC
import Derived.Test.YtbdccebpehogjaaRefB
import Derived.Test.YtbdccebpehogjaaQuickL
import Derived.Lib.Bytealg
import Derived.Laws.Externs
set_option linter.unusedSimpArgs false
set_option linter.unnecessarySimpa false
set_option linter.unusedVariables false
set_option linter.constructorNameAsVariable false

/-
 rat: a number between two: the walk.
-/
namespace Go.Proofs.Ytbdccebpehogjaa
open Go Go.Abs Go.Limbs
variable {base : Prot}
set_option maxRecDepth 20000
attribute [local irreducible] vc
attribute [local simp] pureS touchV freezeL fuel shiftV u64 au
end Go.Proofs.Ytbdccebpehogjaa

/-
 rat: texts.
-/
namespace Go.Proofs.Ytbdccebpehogjaa
open Go Go.Abs Go.Limbs
variable {base : Prot}
set_option maxRecDepth 20000
attribute [local irreducible] vc
attribute [local simp] pureS touchV freezeL fuel shiftV u64 au
end Go.Proofs.Ytbdccebpehogjaa

/-
 strings.Cut at a slash; strings.Trim of noughts; rat.Parse.
-/
namespace Go.Proofs.Ytbdccebpehogjaa
open Go Go.Abs Go.Limbs
variable {base : Prot}
set_option maxRecDepth 20000
attribute [local irreducible] vc
attribute [local simp] pureS touchV freezeL fuel shiftV u64 au
def lowF (neg : Bool) (n d : List Nat × Nat) : Fr × Nat := if n.2 = 0 ∧ d.2 = 0 then heldQ (mkRat (zOf neg (val n.1)) (val d.1)) else (zF, 4)
end Go.Proofs.Ytbdccebpehogjaa

/-
 rat: Parse of Text: the plain law.
-/
namespace Go.Proofs.Ytbdccebpehogjaa
open Go Go.Abs Go.Limbs Go.Lib
set_option maxRecDepth 20000
end Go.Proofs.Ytbdccebpehogjaa

/-
 strings.Cut at a byte, strings.Trim and TrimRight of noughts.
-/
namespace Go.Proofs.Ytbdccebpehogjaa
open Go Go.Abs Go.Limbs
variable {base : Prot}
set_option maxRecDepth 20000
attribute [local irreducible] vc
attribute [local simp] pureS touchV freezeL fuel shiftV u64 au
end Go.Proofs.Ytbdccebpehogjaa

/-
 rat.Parse.
-/
namespace Go.Proofs.Ytbdccebpehogjaa
open Go Go.Abs Go.Limbs
variable {base : Prot}
set_option maxRecDepth 20000
attribute [local irreducible] vc
attribute [local simp] pureS touchV freezeL fuel shiftV u64 au
end Go.Proofs.Ytbdccebpehogjaa
