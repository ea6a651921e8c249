/-
  What nat.Text computes: the decimal numeral. No conditions beyond the lemmas' own hypotheses.
-/
import Derived.Test.YtcfklmjgofknjaaGreatNatG
import Derived.Test.YtcfklmjgofknjaaGreatNatE
import Derived.Test.YtcfklmjgofknjaaGreatAbsThree
import Derived.Lib.Builder
import Derived.Lib.UnsafeStr
import Derived.RegionTactic
import Derived.WalkKit
import Derived.Test.YtcfklmjgofknjaaGreatNatD
import Derived.Test.YtcfklmjgofknjaaGreatAbsFour
import Derived.Test.YtcfklmjgofknjaaGreatNatA
set_option linter.unusedSimpArgs false
set_option linter.unnecessarySimpa false
set_option linter.unusedVariables false
set_option linter.constructorNameAsVariable false

/-
 strings.Builder at this seat: its methods, and what it holds.
-/
namespace Go.Proofs.YtcfklmjgofknjaaGreat
open Go Go.RowKit Go.Abs
variable {base : Prot}
set_option maxRecDepth 20000
attribute [local simp] pureS touchV freezeL fuel shiftV
end Go.Proofs.YtcfklmjgofknjaaGreat

/-
 strings.Repeat of a nought, up to 19 times; slices.Backward.
-/
namespace Go.Proofs.YtcfklmjgofknjaaGreat
open Go Go.Abs Go.Limbs
variable {base : Prot}
set_option maxRecDepth 20000
def eqO (a b : Option PVal) : Bool := match a, b with
 | some x, some y => eqP 5 x y
 | _, _ => false
theorem eqO_ok {a b : Option PVal} (h : eqO a b = true) : a = b := by
 unfold eqO at h
 split at h
 ·rw [eqP_ok _ _ _ h]
 ·cases h
end Go.Proofs.YtcfklmjgofknjaaGreat

/-
 slices.Backward in a caller: its range.
-/
namespace Go.Proofs.YtcfklmjgofknjaaGreat
open Go Go.Abs Go.RowKit
variable {base : Prot}
set_option maxRecDepth 20000
section
attribute [local irreducible] vc
attribute [local simp] pureS touchV freezeL fuel shiftV
end
end Go.Proofs.YtcfklmjgofknjaaGreat

/-
 nat: a number's numeral (Text).
-/
namespace Go.Proofs.YtcfklmjgofknjaaGreat
open Go Go.Abs Go.Limbs
variable {base : Prot}
set_option maxRecDepth 20000
attribute [local irreducible] vc
attribute [local simp] pureS touchV freezeL fuel shiftV u64
end Go.Proofs.YtcfklmjgofknjaaGreat
