/-
  What nat.Text computes: the decimal numeral. No conditions beyond the lemmas' own hypotheses.
-/
import Derived.Test.YtepfpgnjpkcgmaaNatF
import Derived.Test.YtepfpgnjpkcgmaaNatE
import Derived.Test.YtepfpgnjpkcgmaaAbsThree
import Derived.Lib.Builder
import Derived.Lib.UnsafeStr
import Derived.RegionTactic
import Derived.WalkKit
import Derived.Test.YtepfpgnjpkcgmaaNatC
import Derived.Test.YtepfpgnjpkcgmaaNatG
import Derived.Test.YtepfpgnjpkcgmaaAbsFour
import Derived.Test.YtepfpgnjpkcgmaaNatB
set_option linter.unusedSimpArgs false
set_option linter.unnecessarySimpa false
set_option linter.unusedVariables false
set_option linter.constructorNameAsVariable false

/-
  strings.Builder at this seat: its methods, and what it holds.
-/
namespace Go.Proofs.Ytepfpgnjpkcgmaa
open Go Go.RowKit Go.Abs
variable {base : Prot}
set_option maxRecDepth 20000
attribute [local simp] pureS touchV freezeL fuel shiftV
end Go.Proofs.Ytepfpgnjpkcgmaa

/-
  strings.Repeat of a nought, up to 19 times; slices.Backward.
-/
namespace Go.Proofs.Ytepfpgnjpkcgmaa
open Go Go.Abs Go.Limbs
variable {base : Prot}
set_option maxRecDepth 20000
end Go.Proofs.Ytepfpgnjpkcgmaa

/-
  slices.Backward in a caller: its range.
-/
namespace Go.Proofs.Ytepfpgnjpkcgmaa
open Go Go.Abs Go.RowKit
variable {base : Prot}
set_option maxRecDepth 20000
section
attribute [local irreducible] vc
attribute [local simp] pureS touchV freezeL fuel shiftV
end
end Go.Proofs.Ytepfpgnjpkcgmaa

/-
  nat: a number's numeral (Text).
-/
namespace Go.Proofs.Ytepfpgnjpkcgmaa
open Go Go.Abs Go.Limbs
variable {base : Prot}
set_option maxRecDepth 20000
attribute [local irreducible] vc
attribute [local simp] pureS touchV freezeL fuel shiftV u64
/-! ### The parts of the body -/
/-! ### What it calls -/
end Go.Proofs.Ytepfpgnjpkcgmaa
