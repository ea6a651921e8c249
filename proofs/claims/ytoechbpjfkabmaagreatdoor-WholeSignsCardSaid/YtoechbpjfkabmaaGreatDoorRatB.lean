/-
  Fractions as pure values: lowest terms, sums, products, quotients, the order, sizes. No conditions beyond the lemmas' own hypotheses.
-/
import Derived.Test.YtoechbpjfkabmaaGreatDoorWholeIB
set_option linter.unusedSimpArgs false
set_option linter.unusedVariables false
set_option linter.constructorNameAsVariable false

/-
  Fractions as pure values: what is one, lowest terms, sums, products, quotients, the order.
-/
namespace Go.Proofs.YtoechbpjfkabmaaGreatDoor
open Go Go.Abs Go.Limbs
set_option maxRecDepth 20000
/-- A fraction as it lies: a sign, and two rows of limbs. -/
structure Fr where
  s : Bool
  n : List Nat
  d : List Nat
def Fr.wf (x : Fr) : Prop := Wf x.n ∧ Wf x.d
def Fr.enc (x : Fr) : PVal := .agg [.bool x.s, .lst (x.n.map u64), .lst (x.d.map u64)]
def decF : PVal → Option Fr
  | .agg [.bool s, .lst xs, .lst ys] => match decU xs, decU ys with | some l, some m => some ⟨s, l, m⟩ | _, _ => none
  | _ => none
def Fr.ok (x : Fr) : Bool := okL x.n && okL x.d && decide (val x.d ≠ 0) && (!x.s || decide (val x.n ≠ 0)) && (Nat.gcd (val x.n) (val x.d) == 1)
def Fr.q (x : Fr) : Rat := mkRat (zOf x.s (val x.n)) (val x.d)
/-- Both numbers have at most so many limbs. -/
def Sm (k : Nat) (q : Rat) : Prop := len q.num.natAbs ≤ k ∧ len q.den ≤ k
instance (k : Nat) (q : Rat) : Decidable (Sm k q) := inferInstanceAs (Decidable (_ ∧ _))
/-! ### Lowest terms -/
/-! ### The order -/
/-! ### What the functions answer -/
def f1 (g : Fr → PVal) : List PVal → Option PVal
  | [a] => match decF a with | some x => some (g x) | none => none
  | _ => none
def f2 (g : Fr → Fr → PVal) : List PVal → Option PVal
  | [a, b] => match decF a, decF b with | some x, some y => some (g x y) | _, _ => none
  | _ => none
end Go.Proofs.YtoechbpjfkabmaaGreatDoor

/-
  Fractions: how big answers get; the order against sums and products; what lies between.
-/
namespace Go.Proofs.YtoechbpjfkabmaaGreatDoor
open Go Go.Abs Go.Limbs
set_option maxRecDepth 20000
/-! ### Sizes -/
theorem len_one : len 1 = 1 := by rw [len, limbs_small (by decide) (by decide)]; rfl
/-! ### The order -/
/-! ### Whole numbers below -/
end Go.Proofs.YtoechbpjfkabmaaGreatDoor
