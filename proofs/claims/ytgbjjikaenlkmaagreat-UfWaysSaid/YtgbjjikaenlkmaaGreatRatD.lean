/-
  What rat's functions compute: whole numbers below and above, a number between two, texts. No conditions beyond the lemmas' own hypotheses.
-/
import Derived.Test.YtgbjjikaenlkmaaGreatRatC
set_option linter.unusedSimpArgs false
set_option linter.unnecessarySimpa false
set_option linter.unusedVariables false
set_option linter.constructorNameAsVariable false

/-
 rat: the whole number below, those next to a fraction, and a number between two.
-/
namespace Go.Proofs.YtgbjjikaenlkmaaGreat
open Go Go.Abs Go.Limbs
variable {base : Prot}
set_option maxRecDepth 20000
attribute [local irreducible] vc
attribute [local simp] pureS touchV freezeL fuel shiftV u64 au
theorem divInt_one (z : Int) : Rat.divInt z 1 = (z : Rat) := by
 rw [show (1 : Int) = ((1 : Nat) : Int) from rfl, Rat.divInt_ofNat]
 refine Rat.ext ?_ ?_
 ·rw [Rat.num_mkRat]; simp
 ·rw [Rat.den_mkRat]; simp
theorem sIOf_one : sIOf [.int .i64 1] = some (iN 1) := sIOf_at (by decide) (by decide)
theorem zl_one : zl 1 = 1 := by unfold zl; exact len_one
end Go.Proofs.YtgbjjikaenlkmaaGreat

/-
 Fractions: what lies between two of them.
-/
namespace Go.Proofs.YtgbjjikaenlkmaaGreat
open Go Go.Abs Go.Limbs
set_option maxRecDepth 20000
end Go.Proofs.YtgbjjikaenlkmaaGreat

/-
 rat: a number between two: the walk.
-/
namespace Go.Proofs.YtgbjjikaenlkmaaGreat
open Go Go.Abs Go.Limbs
variable {base : Prot}
set_option maxRecDepth 20000
attribute [local irreducible] vc
attribute [local simp] pureS touchV freezeL fuel shiftV u64 au
end Go.Proofs.YtgbjjikaenlkmaaGreat

/-
 rat: texts.
-/
namespace Go.Proofs.YtgbjjikaenlkmaaGreat
open Go Go.Abs Go.Limbs
variable {base : Prot}
set_option maxRecDepth 20000
attribute [local irreducible] vc
attribute [local simp] pureS touchV freezeL fuel shiftV u64 au
end Go.Proofs.YtgbjjikaenlkmaaGreat
