/-
  What the reference's functions of sums compute, for at most a million parts.
-/
import Derived.Test.YtgbjjikaenlkmaaGreatLinD
import Derived.Test.YtgbjjikaenlkmaaGreatRatM
set_option linter.unusedSimpArgs false
set_option linter.unnecessarySimpa false
set_option linter.unusedVariables false
set_option linter.constructorNameAsVariable false

/-
 The reference's sums: what is one, a term's number, without a term, the same.
-/
namespace Go.Proofs.YtgbjjikaenlkmaaGreat
open Go Go.Abs Go.Limbs
variable {base : Prot}
set_option maxRecDepth 20000
attribute [local irreducible] vc
attribute [local simp] pureS touchV freezeL fuel shiftV u64 au
end Go.Proofs.YtgbjjikaenlkmaaGreat

/-
 The reference's sums: without a term, multiples.
-/
namespace Go.Proofs.YtgbjjikaenlkmaaGreat
open Go Go.Abs Go.Limbs
variable {base : Prot}
set_option maxRecDepth 20000
attribute [local irreducible] vc
attribute [local simp] pureS touchV freezeL fuel shiftV u64 au
end Go.Proofs.YtgbjjikaenlkmaaGreat

/-
 The reference's sums: sums; what a term is where a sum is 0.
-/
namespace Go.Proofs.YtgbjjikaenlkmaaGreat
open Go Go.Abs Go.Limbs
variable {base : Prot}
set_option maxRecDepth 20000
attribute [local irreducible] vc
attribute [local simp] pureS touchV freezeL fuel shiftV u64 au
end Go.Proofs.YtgbjjikaenlkmaaGreat

/-
 The reference's sums: sums of any; what a term is where a sum is 0; what is told of ids, and values.
-/
namespace Go.Proofs.YtgbjjikaenlkmaaGreat
open Go Go.Abs Go.Limbs
variable {base : Prot}
set_option maxRecDepth 20000
attribute [local irreducible] vc
attribute [local simp] pureS touchV freezeL fuel shiftV u64 au
structure Bd where
 id : Int
 x : Fr
def Bd.enc (b : Bd) : PVal := .agg [.int .i64 b.id, .bool b.x.s, .lst (b.x.n.map u64), .lst (b.x.d.map u64)]
end Go.Proofs.YtgbjjikaenlkmaaGreat

/-
 law8: the reference's values; what is told of ids.
-/
namespace Go.Proofs.YtgbjjikaenlkmaaGreat
open Go Go.Abs Go.Limbs
variable {base : Prot}
set_option maxRecDepth 20000
attribute [local irreducible] vc
attribute [local simp] pureS touchV freezeL fuel shiftV u64 au
end Go.Proofs.YtgbjjikaenlkmaaGreat
