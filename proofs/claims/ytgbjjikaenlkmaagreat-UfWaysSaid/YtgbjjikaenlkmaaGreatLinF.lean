/-
  What is told of ids, as law8 hands it on. No conditions beyond the lemmas' own hypotheses.
-/
import Derived.Test.YtgbjjikaenlkmaaGreatLinE
set_option linter.unusedSimpArgs false
set_option linter.unnecessarySimpa false
set_option linter.unusedVariables false
set_option linter.constructorNameAsVariable false

/-
 law8: what is told of ids.
-/
namespace Go.Proofs.YtgbjjikaenlkmaaGreat
open Go Go.Abs Go.Limbs
variable {base : Prot}
set_option maxRecDepth 20000
attribute [local irreducible] vc
attribute [local simp] pureS touchV freezeL fuel shiftV u64 au
end Go.Proofs.YtgbjjikaenlkmaaGreat
