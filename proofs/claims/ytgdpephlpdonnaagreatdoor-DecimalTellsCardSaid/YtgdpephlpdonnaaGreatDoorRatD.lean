/-
  What rat's functions compute: whole numbers below and above, a number between two, texts. No conditions beyond the lemmas' own hypotheses.
-/
import Derived.Test.YtgdpephlpdonnaaGreatDoorRatC
set_option linter.unusedSimpArgs false
set_option linter.unusedVariables false
set_option linter.constructorNameAsVariable false

/-
  rat: the whole number below, those next to a fraction, and a number between two.
-/
namespace Go.Proofs.YtgdpephlpdonnaaGreatDoor
open Go Go.Abs Go.Limbs
variable {base : Prot}
set_option maxRecDepth 20000
attribute [local irreducible] vc
attribute [local simp] pureS touchV freezeL fuel shiftV u64 au
/-! ### Whole numbers as fractions, those next to one -/
theorem divInt_one (z : Int) : Rat.divInt z 1 = (z : Rat) := by
  rw [show (1 : Int) = ((1 : Nat) : Int) from rfl, Rat.divInt_ofNat]
  refine Rat.ext ?_ ?_
  · rw [Rat.num_mkRat]; simp
  · rw [Rat.den_mkRat]; simp
theorem sIOf_one : sIOf [.int .i64 1] = some (iN 1) := sIOf_at (by decide) (by decide)
theorem zl_one : zl 1 = 1 := by unfold zl; exact len_one
theorem negP_num {q : Rat} (h : Sm 64 q) : f1 negP [(ofQ q).enc] = some (ofQ (-q)).enc := by
  rw [f1_at (wf_ofQ q)]
  unfold negP
  rw [negF_num h]
/-! ### Between -/
end Go.Proofs.YtgdpephlpdonnaaGreatDoor

/-
  Fractions: what lies between two of them.
-/
namespace Go.Proofs.YtgdpephlpdonnaaGreatDoor
open Go Go.Abs Go.Limbs
set_option maxRecDepth 20000
end Go.Proofs.YtgdpephlpdonnaaGreatDoor

/-
  rat: a number between two: the walk.
-/
namespace Go.Proofs.YtgdpephlpdonnaaGreatDoor
open Go Go.Abs Go.Limbs
variable {base : Prot}
set_option maxRecDepth 20000
attribute [local irreducible] vc
attribute [local simp] pureS touchV freezeL fuel shiftV u64 au
end Go.Proofs.YtgdpephlpdonnaaGreatDoor

/-
  rat: texts.
-/
namespace Go.Proofs.YtgdpephlpdonnaaGreatDoor
open Go Go.Abs Go.Limbs
variable {base : Prot}
set_option maxRecDepth 20000
attribute [local irreducible] vc
attribute [local simp] pureS touchV freezeL fuel shiftV u64 au
theorem dec_1280 {n : Nat} (h : len n ≤ 64) : (Lib.decDigits n).length ≤ 1280 := by
  obtain ⟨k, hk, h10⟩ := B64_k
  have h := dec_le (k := k) (Nat.lt_of_lt_of_le (lt_len _) (Nat.le_trans (Bpow_le h) h10))
  omega
end Go.Proofs.YtgdpephlpdonnaaGreatDoor
