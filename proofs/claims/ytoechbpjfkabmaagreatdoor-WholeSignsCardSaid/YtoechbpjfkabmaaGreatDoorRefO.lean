/-
  What the reference's functions of sums, differences, products and the order compute, for at most 100000 limbs.
-/
import Derived.Test.YtoechbpjfkabmaaGreatDoorRefJ
import Derived.Test.YtoechbpjfkabmaaGreatDoorNatE
set_option linter.unusedSimpArgs false
set_option linter.unusedVariables false
set_option linter.constructorNameAsVariable false

/-
  The reference: rows of limbs without zeros at the end, their order, what is a number, sizes.
-/
namespace Go.Proofs.YtoechbpjfkabmaaGreatDoor
open Go Go.Abs Go.Limbs
variable {base : Prot}
set_option maxRecDepth 20000
attribute [local irreducible] vc
attribute [local simp] pureS touchV freezeL fuel shiftV u64 au
end Go.Proofs.YtoechbpjfkabmaaGreatDoor

/-
  The reference: sums and differences.
-/
namespace Go.Proofs.YtoechbpjfkabmaaGreatDoor
open Go Go.Abs Go.Limbs
variable {base : Prot}
set_option maxRecDepth 20000
attribute [local irreducible] vc
attribute [local simp] pureS touchV freezeL fuel shiftV u64 au
/-- A row that is appended to: none yet, or an own array. -/
def IsRow (H : Heap) (x : AVal) (l : List Nat) : Prop := (l = [] ∧ x = .tight []) ∨ ∃ j ver, x = .own j 0 l.length ver ∧ H[j]? = some (rowE ver l)
theorem IsRow.own {H : Heap} {j ver : Nat} {l : List Nat} (h : H[j]? = some (rowE ver l)) : IsRow H (.own j 0 l.length ver) l := .inr ⟨j, ver, rfl, h⟩
end Go.Proofs.YtoechbpjfkabmaaGreatDoor

/-
  The reference: products.
-/
namespace Go.Proofs.YtoechbpjfkabmaaGreatDoor
open Go Go.Abs Go.Limbs
variable {base : Prot}
set_option maxRecDepth 20000
attribute [local irreducible] vc
attribute [local simp] pureS touchV freezeL fuel shiftV u64 au
end Go.Proofs.YtoechbpjfkabmaaGreatDoor

/-
  The reference's answers for sums, differences, products and the order.
-/
namespace Go.Proofs.YtoechbpjfkabmaaGreatDoor
open Go Go.Abs Go.Limbs
variable {base : Prot}
set_option maxRecDepth 20000
attribute [local irreducible] vc
attribute [local simp] pureS touchV freezeL fuel shiftV u64 au
end Go.Proofs.YtoechbpjfkabmaaGreatDoor
