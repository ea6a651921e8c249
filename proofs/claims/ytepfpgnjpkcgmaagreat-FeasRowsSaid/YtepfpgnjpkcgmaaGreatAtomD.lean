/-
  What is told of ids, as law9 hands it on; the plain law of atoms; law9's awake. No conditions beyond the lemmas' own hypotheses.
-/
import Derived.Test.YtepfpgnjpkcgmaaGreatAtomC
import Derived.Test.YtepfpgnjpkcgmaaGreatAtomL
set_option linter.unusedSimpArgs false
set_option linter.unnecessarySimpa false
set_option linter.unusedVariables false
set_option linter.constructorNameAsVariable false

/-
 law9: what is told of ids.
-/
namespace Go.Proofs.YtepfpgnjpkcgmaaGreat
open Go Go.Abs Go.Limbs
variable {base : Prot}
set_option maxRecDepth 20000
attribute [local irreducible] vc
attribute [local simp] pureS touchV freezeL fuel shiftV u64 au
end Go.Proofs.YtepfpgnjpkcgmaaGreat

/-
 Atoms made of sums of fractions: the plain law.
-/
namespace Go.Proofs.YtepfpgnjpkcgmaaGreat
open Go Go.Abs Go.Limbs
set_option maxRecDepth 20000
def atQ (k : Int) (N : Qo) : At := ⟨k, ofP N, 0, 0⟩
end Go.Proofs.YtepfpgnjpkcgmaaGreat

/-
 law9: awake.
-/
namespace Go.Proofs.YtepfpgnjpkcgmaaGreat
open Go Go.Abs Go.Limbs
variable {base : Prot}
set_option maxRecDepth 20000
attribute [local irreducible] vc
attribute [local simp] pureS touchV freezeL fuel shiftV u64 au
end Go.Proofs.YtepfpgnjpkcgmaaGreat
