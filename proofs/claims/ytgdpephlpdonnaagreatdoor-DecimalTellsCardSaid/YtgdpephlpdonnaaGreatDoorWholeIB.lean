/-
  What whole's functions of ints, texts and quotients compute. No conditions beyond the lemmas' own hypotheses.
-/
import Derived.Test.YtgdpephlpdonnaaGreatDoorWholeIA
import Derived.Test.YtgdpephlpdonnaaGreatDoorNatI
import Derived.Test.YtgdpephlpdonnaaGreatDoorNatH
set_option linter.unusedSimpArgs false
set_option linter.unusedVariables false
set_option linter.constructorNameAsVariable false

/-
  whole: numbers of ints, values, texts, quotients; law2's same and few.
-/
namespace Go.Proofs.YtgdpephlpdonnaaGreatDoor
open Go Go.Abs Go.Limbs
variable {base : Prot}
set_option maxRecDepth 20000
attribute [local irreducible] vc
attribute [local simp] pureS touchV freezeL fuel shiftV u64 au
/-! ### Of -/
def sIOf : List PVal → Option PVal
  | [.int .i64 n] => if -9223372036854775808 ≤ n ∧ n < 9223372036854775808 then some (iN n) else none
  | _ => none
theorem sIOf_at {n : Int} (h1 : -9223372036854775808 ≤ n) (h2 : n < 9223372036854775808) : sIOf [.int .i64 n] = some (iN n) := if_pos ⟨h1, h2⟩
theorem ofL_num {n : Int} (h0 : 0 ≤ n) (h : n < 9223372036854775808) : ofL n = limbs n.natAbs := by
  unfold ofL
  by_cases hz : n ≤ 0
  · have : n = 0 := by omega
    subst this
    simp [limbs_zero]
  · rw [if_neg hz, IntKind.wrap_u64, limbs_small (by omega) (by rw [B_lit]; omega)]
    congr 1
    omega
/-! ### Value -/
/-! ### Text -/
theorem dec_le {n k : Nat} (h : n < 10 ^ (k + 1)) : (Lib.decDigits n).length ≤ k + 1 := (pad_dec k n h).1
theorem B64_ten : B ^ 64 < 10 ^ (1279 + 1) := by decide +kernel
theorem B64_k : ∃ k, k ≤ 1279 ∧ B ^ 64 ≤ 10 ^ (k + 1) := ⟨1279, Nat.le_refl _, Nat.le_of_lt B64_ten⟩
/-! ### Parse -/
/-! ### law2's same and few -/
end Go.Proofs.YtgdpephlpdonnaaGreatDoor

/-
  whole: quotients; law2's awake.
-/
namespace Go.Proofs.YtgdpephlpdonnaaGreatDoor
open Go Go.Abs Go.Limbs
variable {base : Prot}
set_option maxRecDepth 20000
attribute [local irreducible] vc
attribute [local simp] pureS touchV freezeL fuel shiftV u64 au
/-! ### Div -/
def cD (z w : Int) : Bool := (decide (z < 0) != decide (w < 0)) && decide (z.natAbs % w.natAbs ≠ 0)
def lD (z w : Int) : Nat := if cD z w then w.natAbs - z.natAbs % w.natAbs else z.natAbs % w.natAbs
end Go.Proofs.YtgdpephlpdonnaaGreatDoor

/-
  whole: calls at numbers; law2's awake.
-/
namespace Go.Proofs.YtgdpephlpdonnaaGreatDoor
open Go Go.Abs Go.Limbs
variable {base : Prot}
set_option maxRecDepth 20000
attribute [local irreducible] vc
attribute [local simp] pureS touchV freezeL fuel shiftV u64 au
end Go.Proofs.YtgdpephlpdonnaaGreatDoor
