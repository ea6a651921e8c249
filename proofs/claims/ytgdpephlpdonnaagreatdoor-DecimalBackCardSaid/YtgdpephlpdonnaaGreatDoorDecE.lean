/-
  DecimalForms answers true on all values. No conditions.
-/
import Derived.Test.YtgdpephlpdonnaaGreatDoorDecD
set_option linter.unusedSimpArgs false
set_option linter.unusedVariables false
set_option linter.constructorNameAsVariable false

/-
  DecimalForms: the plain law.
-/
namespace Go.Proofs.YtgdpephlpdonnaaGreatDoor
open Go Go.Abs Go.Limbs Go.Lib
set_option maxRecDepth 20000
theorem dec_head {n : Nat} (h : n ≠ 0) : (decDigits n).head? ≠ some 48 := by
  induction n using Nat.strongRecOn with
  | _ n ih =>
    by_cases h10 : n < 10
    · rw [decDigits_one h10]
      intro e
      have e2 : digit n = 48 := Option.some.inj e
      have := digit_valQ h10
      rw [e2, show UInt8.toNat 48 = 48 from rfl] at this
      omega
    · rw [dec_ten h10]
      have hne := dec_ne (n / 10)
      have := ih (n / 10) (by omega) (by omega)
      cases hd : decDigits (n / 10) with
      | nil => exact absurd hd hne
      | cons c r =>
        rw [hd] at this
        simpa using this
theorem numS_dec (n : Nat) : numS (decDigits n) = true := by
  unfold numS
  rw [digS_decQ]
  by_cases h : n = 0
  · subst h
    rw [decDigits_one (by decide)]
    decide
  · have := dec_head h
    simp [this]
theorem no46 {s : List UInt8} (h : s.all isD = true) : ∀ c ∈ s, c ≠ 46 := by
  rintro c hc rfl
  have := List.all_eq_true.1 h _ hc
  exact absurd this (by decide)
theorem cut_at {s r : List UInt8} (h : ∀ c ∈ s, c ≠ 46) : cutU 46 (s ++ 46 :: r) = s ∧ cutB 46 (s ++ 46 :: r) = true ∧ cutD 46 (s ++ 46 :: r) = r := by
  obtain ⟨h1, h2⟩ := takeW_all (r := r) h
  refine ⟨h1, ?_, ?_⟩
  · unfold cutB; rw [h2]; rfl
  · unfold cutD; rw [h2]; rfl
section
variable {n : Nat} {t : List UInt8}
end
end Go.Proofs.YtgdpephlpdonnaaGreatDoor

/-
  The reference's Floor; DecimalForms answers true.
-/
namespace Go.Proofs.YtgdpephlpdonnaaGreatDoor
open Go Go.Abs Go.Limbs
variable {base : Prot}
set_option maxRecDepth 20000
attribute [local irreducible] vc
attribute [local simp] pureS touchV freezeL fuel shiftV u64 au
/-! ### Floor -/
/-! ### The law -/
end Go.Proofs.YtgdpephlpdonnaaGreatDoor
