/-
  What atom.Make and the reference's ValidAtom compute, for sums of at most a million parts.
-/
import Derived.Test.YtepfpgnjpkcgmaaGreatAtomA
import Derived.Test.YtepfpgnjpkcgmaaGreatLinH
set_option linter.unusedSimpArgs false
set_option linter.unnecessarySimpa false
set_option linter.unusedVariables false
set_option linter.constructorNameAsVariable false

/-
 Atoms made of sums: what is made; atom.Make and the reference's.
-/
namespace Go.Proofs.YtepfpgnjpkcgmaaGreat
open Go Go.Abs Go.Limbs
variable {base : Prot}
set_option maxRecDepth 20000
attribute [local irreducible] vc
attribute [local simp] pureS touchV freezeL fuel shiftV u64 au
def k3 (k : Int) : Int := if k = 4 then 3 else k
def ki (g : Int → Po → PVal) : List PVal → Option PVal
 | [.int .i64 k, a] => match decPo a with | some p => if p.few = true then some (g k p) else none | none => none
 | _ => none
end Go.Proofs.YtepfpgnjpkcgmaaGreat

/-
 The reference's atoms: what is one, what is made.
-/
namespace Go.Proofs.YtepfpgnjpkcgmaaGreat
open Go Go.Abs Go.Limbs
variable {base : Prot}
set_option maxRecDepth 20000
attribute [local irreducible] vc
attribute [local simp] pureS touchV freezeL fuel shiftV u64 au
theorem sameF_dec (x y : Fr) : sameF x y = decide (x = y) := by
 obtain ⟨s, n, d⟩ := x
 obtain ⟨s', n', d'⟩ := y
 unfold sameF
 rw [Bool.eq_iff_iff]
 simp
 try grind
theorem sameP_dec (x y : Fr) : sameP x y = .bool (decide (x = y)) := by unfold sameP; rw [sameF_dec]
end Go.Proofs.YtepfpgnjpkcgmaaGreat
