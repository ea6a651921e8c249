/-
  What strings.Cut and strings.Trim compute at one byte, and rat.Parse, for texts of at most 80000 bytes.
-/
import Derived.Test.YtoechbpjfkabmaaGreatDoorRatD
import Derived.Test.YtoechbpjfkabmaaGreatDoorWholeD
set_option linter.unusedSimpArgs false
set_option linter.unusedVariables false
set_option linter.constructorNameAsVariable false

/-
  strings.Cut at a slash; strings.Trim of noughts; rat.Parse.
-/
namespace Go.Proofs.YtoechbpjfkabmaaGreatDoor
open Go Go.Abs Go.Limbs
variable {base : Prot}
set_option maxRecDepth 20000
attribute [local irreducible] vc
attribute [local simp] pureS touchV freezeL fuel shiftV u64 au
/-! ### The plain law -/
end Go.Proofs.YtoechbpjfkabmaaGreatDoor

/-
  rat: Parse of Text: the plain law.
-/
namespace Go.Proofs.YtoechbpjfkabmaaGreatDoor
open Go Go.Abs Go.Limbs Go.Lib
set_option maxRecDepth 20000
theorem digit_valQ {d : Nat} (h : d < 10) : (digit d).toNat = 48 + d := by
  unfold digit
  rw [UInt8.toNat_ofNat']
  omega
theorem digit_isQ {d : Nat} (h : d < 10) : isD (digit d) = true := by
  have := digit_valQ h
  unfold isD
  simp
  omega
theorem numD_appQ : ∀ (l r : List UInt8) (acc : Nat), numD acc (l ++ r) = numD (numD acc l) r
  | [], _, _ => rfl
  | c :: l, r, acc => numD_appQ l r _
theorem numD_snocQ (l : List UInt8) (c : UInt8) : numD 0 (l ++ [c]) = numD 0 l * 10 + (c.toNat - 48) := by
  rw [numD_appQ]
  rfl
theorem dec_ne (n : Nat) : decDigits n ≠ [] := by
  by_cases h : n < 10
  · rw [decDigits_one h]; simp
  · rw [dec_ten h]; simp
theorem numD_decQ (n : Nat) : numD 0 (decDigits n) = n ∧ (decDigits n).all isD = true := by
  induction n using Nat.strongRecOn with
  | _ n ih =>
    by_cases h : n < 10
    · rw [decDigits_one h]
      have hv := digit_valQ h
      refine ⟨?_, ?_⟩
      · have := numD_snocQ [] (digit n)
        rw [List.nil_append] at this
        show numD 0 [digit n] = n
        rw [this, show numD 0 [] = 0 from rfl]
        omega
      · show List.all [digit n] isD = true
        simp [digit_isQ h]
    · obtain ⟨i1, i2⟩ := ih (n / 10) (by omega)
      have hm : n % 10 < 10 := Nat.mod_lt _ (by decide)
      have hv := digit_valQ hm
      rw [dec_ten h, numD_snocQ, i1, List.all_append, i2]
      refine ⟨by omega, by simp [digit_isQ hm]⟩
theorem digS_decQ (n : Nat) : digS (decDigits n) = true := by
  unfold digS
  rw [(numD_decQ n).2]
  have := dec_ne n
  cases h : decDigits n with
  | nil => exact absurd h this
  | cons c r => rfl
theorem parse_decQ {n : Nat} (hn : len n ≤ 64) : parseL (decDigits n) = (limbs n, 0) := by
  obtain ⟨h1, h2⟩ := numD_decQ n
  unfold parseL
  rw [digS_decQ n, if_pos rfl]
  have hl := dec_1280 hn
  have := (List.dropWhile_sublist (p := (· == 48)) (l := decDigits n)).length_le
  rw [if_neg (by omega), h1, heldL_num hn]
theorem isD_ne {c : UInt8} (h : isD c = true) : c ≠ 47 ∧ c ≠ 45 := by
  unfold isD at h
  simp only [decide_eq_true_eq] at h
  constructor
  · rintro rfl; exact absurd h (by decide)
  · rintro rfl; exact absurd h (by decide)
end Go.Proofs.YtoechbpjfkabmaaGreatDoor
