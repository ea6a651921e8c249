/-
  What the reference's small, ParseNat and TextNat compute. No conditions beyond the lemmas' own hypotheses.
-/
import Derived.Test.YtgbjjikaenlkmaaGreatRefO
import Derived.Test.YtgbjjikaenlkmaaGreatNatI
import Derived.Test.YtgbjjikaenlkmaaGreatNatE
set_option linter.unusedSimpArgs false
set_option linter.unnecessarySimpa false
set_option linter.unusedVariables false
set_option linter.constructorNameAsVariable false

/-
 The reference: a text's number.
-/
namespace Go.Proofs.YtgbjjikaenlkmaaGreat
open Go Go.Abs Go.Limbs
variable {base : Prot}
set_option maxRecDepth 20000
attribute [local irreducible] vc
attribute [local simp] pureS touchV freezeL fuel shiftV u64 au
end Go.Proofs.YtgbjjikaenlkmaaGreat

/-
 The reference: a number read from a text.
-/
namespace Go.Proofs.YtgbjjikaenlkmaaGreat
open Go Go.Abs Go.Limbs
variable {base : Prot}
set_option maxRecDepth 20000
attribute [local irreducible] vc
attribute [local simp] pureS touchV freezeL fuel shiftV u64 au
theorem take_succ_get {α} {s : List α} {i : Nat} {c : α} (h : s[i]? = some c) : s.take (i + 1) = s.take i ++ [c] := by
 rw [List.take_add_one, h]; rfl
end Go.Proofs.YtgbjjikaenlkmaaGreat
