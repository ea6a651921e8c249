/-
  What rat's functions compute, part 2. AcvNo conditions beyond the lemmas' own hypotheses.
-/
import Derived.Test.YtbdccebpehogjaaRatB
set_option linter.unusedSimpArgs false
set_option linter.unnecessarySimpa false
set_option linter.unusedVariables false
set_option linter.constructorNameAsVariable false

/-
 rat: differences, products, quotients.
-/
namespace Go.Proofs.Ytbdccebpehogjaa
open Go Go.Abs Go.Limbs
variable {base : Prot}
set_option maxRecDepth 20000
attribute [local irreducible] vc
attribute [local simp] pureS touchV freezeL fuel shiftV u64 au
end Go.Proofs.Ytbdccebpehogjaa

/-
 rat: fractions of whole numbers and of ints; the whole numbers below and above; a number between two.
-/
namespace Go.Proofs.Ytbdccebpehogjaa
open Go Go.Abs Go.Limbs
variable {base : Prot}
set_option maxRecDepth 20000
attribute [local irreducible] vc
attribute [local simp] pureS touchV freezeL fuel shiftV u64 au
theorem mk_divInt (z w : Int) : mkRat (zOf (decide (z < 0) != decide (w < 0)) z.natAbs) w.natAbs = Rat.divInt z w := by
 by_cases hw : w < 0
 ·obtain ⟨n, rfl⟩ : ∃ n : Nat, w = -(n : Int) := ⟨w.natAbs, by omega⟩
  rw [Rat.divInt_neg', Rat.divInt_ofNat, Int.natAbs_neg, Int.natAbs_natCast]
  congr 1
  by_cases hz : z < 0
  ·simp [zOf, hz, hw]; omega
  ·simp [zOf, hz, hw]; omega
 ·obtain ⟨n, rfl⟩ : ∃ n : Nat, w = (n : Int) := ⟨w.natAbs, by omega⟩
  rw [Rat.divInt_ofNat, Int.natAbs_natCast]
  congr 1
  by_cases hz : z < 0
  ·simp [zOf, hz]; omega
  ·simp [zOf, hz]; omega
def newF (s : Bool) (a : List Nat) (t : Bool) (b : List Nat) : Fr × Nat := if okI s a && okI t b && decide (b ≠ []) then heldQ (Rat.divInt (zL s a) (zL t b)) else (zF, 1)
def sNew : List PVal → Option PVal
 | [.agg [.bool s, .lst xs], .agg [.bool t, .lst ys]] => match decU xs, decU ys with | some a, some b => some (pairF (newF s a t b)) | _, _ => none
 | _ => none
theorem sNew_list {s t : Bool} {a b : List Nat} (ha : Wf a) (hb : Wf b) : sNew [.agg [.bool s, .lst (a.map u64)], .agg [.bool t, .lst (b.map u64)]] = some (pairF (newF s a t b)) := by simp only [sNew, decU_map ha, decU_map hb]
theorem sNew_num {z w : Int} (hz : zl z ≤ 64) (hw : zl w ≤ 64) (h0 : w ≠ 0) : sNew [iN z, iN w] = some (pairF (heldQ (Rat.divInt z w))) := by
 have h := sNew_list (s := decide (z < 0)) (t := decide (w < 0)) (wf_limbs z.natAbs) (wf_limbs w.natAbs)
 have hb : limbs w.natAbs ≠ [] := fun e => h0 (by have := limbs_eq_nil.1 e; omega)
 unfold newF at h
 rw [okI_num hz, okI_num hw, zL_num, zL_num, decide_eq_true hb] at h
 exact h
theorem zl_int {n : Int} (h1 : -9223372036854775808 ≤ n) (h2 : n < 9223372036854775808) : zl n ≤ 1 := by
 unfold zl
 exact len_le (by rw [Nat.pow_one, B_lit]; omega)
theorem Sm_divInt {k : Nat} {z w : Int} (hz : zl z ≤ k) (hw : zl w ≤ k) (hk : 1 ≤ k) : Sm k (Rat.divInt z w) := by
 by_cases h0 : w = 0
 ·subst h0
  rw [Rat.divInt_zero]
  refine ⟨?_, ?_⟩
  ·rw [Rat.zero_num]
   show len 0 ≤ k
   rw [len_zero]; omega
  ·rw [Rat.zero_den, len_one]; exact hk
 ·rw [← mk_divInt]
  exact Sm_mk (by rw [zOf_abs]; exact hz) hw (by omega)
def sQOf : List PVal → Option PVal
 | [.int .i64 n, .int .i64 d] => if (-9223372036854775808 ≤ n ∧ n < 9223372036854775808) ∧ (-9223372036854775808 ≤ d ∧ d < 9223372036854775808) then some (ofQ (Rat.divInt n d)).enc else none
 | _ => none
theorem sQOf_at {n d : Int} (h1 : -9223372036854775808 ≤ n ∧ n < 9223372036854775808) (h2 : -9223372036854775808 ≤ d ∧ d < 9223372036854775808) : sQOf [.int .i64 n, .int .i64 d] = some (ofQ (Rat.divInt n d)).enc := if_pos ⟨h1, h2⟩
end Go.Proofs.Ytbdccebpehogjaa

/-
 rat: the whole number below, those next to a fraction, and a number between two.
-/
namespace Go.Proofs.Ytbdccebpehogjaa
open Go Go.Abs Go.Limbs
variable {base : Prot}
set_option maxRecDepth 20000
attribute [local irreducible] vc
attribute [local simp] pureS touchV freezeL fuel shiftV u64 au
theorem divInt_one (z : Int) : Rat.divInt z 1 = (z : Rat) := by
 rw [show (1 : Int) = ((1 : Nat) : Int) from rfl, Rat.divInt_ofNat]
 refine Rat.ext ?_ ?_
 ·rw [Rat.num_mkRat]; simp
 ·rw [Rat.den_mkRat]; simp
theorem sIOf_one : sIOf [.int .i64 1] = some (iN 1) := sIOf_at (by decide) (by decide)
theorem zl_one : zl 1 = 1 := by unfold zl; exact len_one
end Go.Proofs.Ytbdccebpehogjaa

/-
 Fractions: what lies between two of them.
-/
namespace Go.Proofs.Ytbdccebpehogjaa
open Go Go.Abs Go.Limbs
set_option maxRecDepth 20000
end Go.Proofs.Ytbdccebpehogjaa
