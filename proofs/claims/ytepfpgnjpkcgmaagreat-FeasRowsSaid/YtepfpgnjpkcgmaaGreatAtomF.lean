/-
  AtomForms answers true on all values. No conditions.
-/
import Derived.Test.YtepfpgnjpkcgmaaGreatAtomE
set_option linter.unusedSimpArgs false
set_option linter.unnecessarySimpa false
set_option linter.unusedVariables false
set_option linter.constructorNameAsVariable false

/-
 law9: AtomForms answers true.
-/
namespace Go.Proofs.YtepfpgnjpkcgmaaGreat
open Go Go.Abs Go.Limbs
variable {base : Prot}
set_option maxRecDepth 20000
attribute [local irreducible] vc
attribute [local simp] pureS touchV freezeL fuel shiftV u64 au
structure FormF (K kd : Int) (p q A : Po) (n : Bool) : Prop where
 m1 : ki makeP [.int .i64 kd, p.enc] = some (.tup [(At.mk K A 0 0).enc, .bool n, .int .i64 0])
 m2 : ki makeP [.int .i64 kd, q.enc] = some (.tup [(At.mk K A 0 0).enc, .bool n, .int .i64 0])
 sm : h2 sameAt [(At.mk K A 0 0).enc, (At.mk K A 0 0).enc] = some (.bool true)
 v : h1 okAt [(At.mk K A 0 0).enc] = some (.bool true)
structure NotF (K J : Int) (A M : Po) : Prop where
 n1 : h1s notP [(At.mk K A 0 0).enc] = some (.tup [(At.mk J M 0 0).enc, .bool true])
 n2 : h1s notP [(At.mk J M 0 0).enc] = some (.tup [(At.mk K A 0 0).enc, .bool true])
 v2 : h1 okAt [(At.mk J M 0 0).enc] = some (.bool true)
 d : h2 sameAt [(At.mk J M 0 0).enc, (At.mk K A 0 0).enc] = some (.bool false)
end Go.Proofs.YtepfpgnjpkcgmaaGreat
