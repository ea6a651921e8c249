/-
  DecimalBack answers true on all values. No conditions.
-/
import Derived.Test.YtgdpephlpdonnaaGreatDoorDecE
import Derived.Test.YtgdpephlpdonnaaGreatDoorRefP
set_option linter.unusedSimpArgs false
set_option linter.unusedVariables false
set_option linter.constructorNameAsVariable false

/-
  DecimalBack: the plain law.
-/
namespace Go.Proofs.YtgdpephlpdonnaaGreatDoor
open Go Go.Abs Go.Limbs Go.Lib
set_option maxRecDepth 20000
theorem numD_cons {q : Nat} (hq : q < 10) (l : List UInt8) : numD 0 (digit q :: l) = q * 10 ^ l.length + numD 0 l := by
  show numD (0 * 10 + ((digit q).toNat - 48)) l = _
  rw [numD_acc, digit_valQ hq]
  congr 2
  omega
theorem step_lt {d r : Nat} (hr : r < d) : r * 10 / d < 10 := Nat.div_lt_of_lt_mul (by omega)
theorem expand_dig {d : Nat} : ∀ (f r : Nat), r < d → (expand d f r).all isD = true
  | 0, _, _ => rfl
  | f + 1, r, hr => by
    by_cases h0 : r = 0
    · rw [expand, if_pos h0]; rfl
    · rw [expand_step h0, List.all_cons, digit_isQ (step_lt hr), expand_dig f _ (Nat.mod_lt _ (by omega))]
      rfl
/-- What the digits say. -/
theorem expand_val {d : Nat} : ∀ (f r : Nat), r < d → d ∣ 10 ^ f * r → numD 0 (expand d f r) * d = r * 10 ^ (expand d f r).length
  | 0, r, hr, hd => by
    have := dvd_zero hd hr
    subst this
    rw [Nat.zero_mul]
    show numD 0 [] * d = 0
    rw [show numD 0 [] = 0 from rfl, Nat.zero_mul]
  | f + 1, r, hr, hd => by
    by_cases h0 : r = 0
    · subst h0
      rw [expand_zero, Nat.zero_mul, show numD 0 [] = 0 from rfl, Nat.zero_mul]
    · rw [expand_step h0, numD_cons (step_lt hr), List.length_cons, Nat.add_mul]
      have ih := expand_val f (r * 10 % d) (Nat.mod_lt _ (by omega)) (dvd_step hd)
      rw [ih]
      have e := Nat.div_add_mod (r * 10) d
      generalize (expand d f (r * 10 % d)).length = l
      have e2 : r * 10 / d * 10 ^ l * d = d * (r * 10 / d) * 10 ^ l := by rw [Nat.mul_assoc, Nat.mul_comm (10 ^ l), ← Nat.mul_assoc, Nat.mul_comm (r * 10 / d)]
      rw [e2, ← Nat.add_mul, e, Nat.pow_succ, Nat.mul_assoc, Nat.mul_comm 10]
end Go.Proofs.YtgdpephlpdonnaaGreatDoor

/-
  The reference's quotient of natural numbers.
-/
namespace Go.Proofs.YtgdpephlpdonnaaGreatDoor
open Go Go.Abs Go.Limbs
variable {base : Prot}
set_option maxRecDepth 20000
attribute [local irreducible] vc
attribute [local simp] pureS touchV freezeL fuel shiftV u64 au
theorem freeze1_cons (e : Ent) (t : Heap) (n : Nat) : freeze1 (e :: t) (n + 1) = e :: freeze1 t n := by
  unfold freeze1
  simp only [List.getElem?_cons_succ, List.set_cons_succ]
  cases t[n]? <;> rfl
end Go.Proofs.YtgdpephlpdonnaaGreatDoor
