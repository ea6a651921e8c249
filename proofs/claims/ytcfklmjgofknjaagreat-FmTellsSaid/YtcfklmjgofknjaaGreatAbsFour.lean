/-
  A library of the prover's own, part 4: a range over a function. No conditions.
-/
import Derived.Test.YtcfklmjgofknjaaGreatAbsThree
import Derived.RangeFuncNested
import Derived.RangeFuncBound
import Derived.RangeFuncCalls
import Derived.RangeFuncLeaves
import Derived.TacticsIn
import Derived.RangeFuncBox
set_option linter.unusedSimpArgs false
set_option linter.unnecessarySimpa false
set_option linter.unusedVariables false
set_option linter.constructorNameAsVariable false

/-
 ABS, part RF: a range over a function: its rounds, carried out as code of pure values and own arrays.
-/
namespace Go.Abs
open Go.RowKit
variable {P : Program} {base : Prot}
section
variable {gl : Nat → AVal} {n : Nat}
end
end Go.Abs

/-
 ABS, part RG: a function with a range over a function in its straight part.
-/
namespace Go.Abs
open Go.RowKit
variable {P : Program} {base : Prot}
section
variable {gl : Nat → AVal} {n : Nat}
end
end Go.Abs
