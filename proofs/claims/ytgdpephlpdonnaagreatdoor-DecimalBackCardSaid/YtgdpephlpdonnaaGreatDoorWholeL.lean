/-
  What a row of whole numbers asks of its arguments. No conditions beyond the lemmas' own hypotheses.
-/
import Derived.Test.YtgdpephlpdonnaaGreatDoorNatL
import Derived.ChangeSame
set_option linter.unusedSimpArgs false
set_option linter.unusedVariables false
set_option linter.constructorNameAsVariable false

/-
  What a row asks: arguments that are whole numbers.
-/
namespace Go.Abs
open Go.ChangeShapes Go.WideShapes Go.ChangeAt Go.WideMaps Go.WideElems Go.RowKit Go.Limbs
section
variable {H : Type} {enc : TypeId × Value → H} {P : Program} {W : World} {sp : Nat → Bool}
end
end Go.Abs

/-
  What the rows of whole numbers ask.
-/
namespace Go.Proofs.YtgdpephlpdonnaaGreatDoor
open Go Go.Abs Go.ChangeShapes Go.WideShapes Go.ChangeAt Go.WideMaps Go.WideElems Go.RowKit
set_option maxRecDepth 100000 in
theorem prep_int64 {H : Type} {enc : TypeId × Value → H} {W : World} {sp : Nat → Bool} {v : Value} {d : DataW H} {ps : List MemPlace} {r : Reach} {b0 : Nat} (hv : Value.okWide Tryz.prog W r b0 3 v) (h : DataW.Trod enc Tryz.prog W 0 sp true 3 v d ps) :
    ∃ n : Int, (-9223372036854775808 ≤ n ∧ n < 9223372036854775808) ∧ PRep (allCells W) (.int .i64 n) v := by
  obtain ⟨n, rfl, h1, h2, h3⟩ := open_int Tryz.underlying3 hv h
  refine ⟨n, ?_, .int _ _⟩
  simp only [Lit.wf, Bool.and_eq_true, decide_eq_true_eq] at h3
  have hmin : IntKind.i64.min = -9223372036854775808 := rfl
  have hmax : IntKind.i64.max = 9223372036854775807 := rfl
  rw [hmin, hmax] at h3
  omega
end Go.Proofs.YtgdpephlpdonnaaGreatDoor
