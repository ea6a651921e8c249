/-
  What the reference's MakeAtom, and both sides' opposites, trivial atoms and what holds compute. No conditions beyond the lemmas' own hypotheses.
-/
import Derived.Test.YtgbjjikaenlkmaaGreatAtomB
set_option linter.unusedSimpArgs false
set_option linter.unnecessarySimpa false
set_option linter.unusedVariables false
set_option linter.constructorNameAsVariable false

/-
 Atoms: the reference's making; opposites, what is trivial, what holds: both sides.
-/
namespace Go.Proofs.YtgbjjikaenlkmaaGreat
open Go Go.Abs Go.Limbs
variable {base : Prot}
set_option maxRecDepth 20000
attribute [local irreducible] vc
attribute [local simp] pureS touchV freezeL fuel shiftV u64 au
def triv (x : At) : Bool × Bool := if x.ok && isSum x.k && decide (x.p.ps = []) then (soF x.k (signF x.p.c), true) else (false, false)
end Go.Proofs.YtgbjjikaenlkmaaGreat

/-
 Atoms: opposites and what holds, both sides.
-/
namespace Go.Proofs.YtgbjjikaenlkmaaGreat
open Go Go.Abs Go.Limbs
variable {base : Prot}
set_option maxRecDepth 20000
attribute [local irreducible] vc
attribute [local simp] pureS touchV freezeL fuel shiftV u64 au
end Go.Proofs.YtgbjjikaenlkmaaGreat
