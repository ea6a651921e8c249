/-
  What is told of ids, as law9 hands it on; the plain law of atoms; law9's awake. No conditions beyond the lemmas' own hypotheses.
-/
import Derived.Test.YtcfklmjgofknjaaGreatAtomC
import Derived.Test.YtcfklmjgofknjaaGreatAtomL
set_option linter.unusedSimpArgs false
set_option linter.unnecessarySimpa false
set_option linter.unusedVariables false
set_option linter.constructorNameAsVariable false

/-
 law9: what is told of ids.
-/
namespace Go.Proofs.YtcfklmjgofknjaaGreat
open Go Go.Abs Go.Limbs
variable {base : Prot}
set_option maxRecDepth 20000
attribute [local irreducible] vc
attribute [local simp] pureS touchV freezeL fuel shiftV u64 au
end Go.Proofs.YtcfklmjgofknjaaGreat

/-
 Atoms made of sums of fractions: the plain law.
-/
namespace Go.Proofs.YtcfklmjgofknjaaGreat
open Go Go.Abs Go.Limbs
set_option maxRecDepth 20000
def sgnQ (c : Rat) : Rat := if c < 0 then -1 else if c = 0 then 0 else 1
def szQ (k : Int) (c : Rat) : Rat := if c < 0 ∧ k ≠ 3 then -c else c
def normQ (k : Int) (P : Qo) : Qo := match P.ps with
 | [] => ⟨[], sgnQ P.c⟩
 | x :: _ => scaleQ P (1 / szQ k x.1)
def Can (k : Int) (N : Qo) : Prop := match N.ps with
 | [] => N.c = -1 ∨ N.c = 0 ∨ N.c = 1
 | x :: _ => x.1 = 1 ∨ (k ≠ 3 ∧ x.1 = -1)
def atQ (k : Int) (N : Qo) : At := ⟨k, ofP N, 0, 0⟩
theorem sm1 : Sm 1 (1 : Rat) := by decide +kernel
theorem sgn_of (c : Rat) : Rat.divInt (cmpQ c 0) 1 = sgnQ c := by
 unfold sgnQ
 rcases rat_tri c 0 with h | h | h
 ·rw [cmpQ_lt h, if_pos h]; decide +kernel
 ·subst h; rw [cmpQ_eq, if_neg (lt_irr _), if_pos rfl]; decide +kernel
 ·rw [cmpQ_gt h, if_neg (lt_asymm h), if_neg (by rintro rfl; exact lt_irr _ h)]; decide +kernel
theorem sgn_case (c : Rat) : sgnQ c = -1 ∨ sgnQ c = 0 ∨ sgnQ c = 1 := by
 unfold sgnQ
 split
 ·exact .inl rfl
 ·split
  ·exact .inr (.inl rfl)
  ·exact .inr (.inr rfl)
theorem Sm_sgn (c : Rat) : Sm 1 (sgnQ c) := by rcases sgn_case c with h | h | h <;> rw [h] <;> decide +kernel
theorem szQ_ne {k : Int} {c : Rat} (h : c ≠ 0) : szQ k c ≠ 0 := by
 unfold szQ
 split
 ·grind
 ·exact h
theorem Sm_sz {k : Int} {c : Rat} {m : Nat} (h : Sm m c) : Sm m (szQ k c) := by
 unfold szQ
 split
 ·exact Sm_neg h
 ·exact h
theorem size_of {k : Int} {x : Rat × Int} {r : QP} {d : Rat} (h : Sm 64 x.1) : sizeF k (ofP ⟨x :: r, d⟩) = ofQ (szQ k x.1) := by
 unfold sizeF ofP szQ
 simp only [List.map_cons, ofA]
 rw [signF_num h, negF_num h]
 by_cases h1 : x.1 < 0 ∧ k ≠ 3
 ·rw [if_pos h1, if_pos ⟨cmpQ_neg_iff.2 h1.1, h1.2⟩]
 ·rw [if_neg h1, if_neg (fun h => h1 ⟨cmpQ_neg_iff.1 h.1, h.2⟩)]
end Go.Proofs.YtcfklmjgofknjaaGreat

/-
 law9: awake.
-/
namespace Go.Proofs.YtcfklmjgofknjaaGreat
open Go Go.Abs Go.Limbs
variable {base : Prot}
set_option maxRecDepth 20000
attribute [local irreducible] vc
attribute [local simp] pureS touchV freezeL fuel shiftV u64 au
end Go.Proofs.YtcfklmjgofknjaaGreat
