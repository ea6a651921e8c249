/-
  What an open row asks of an atom. No conditions beyond the lemmas' own hypotheses.
-/
import Derived.Test.YtepfpgnjpkcgmaaGreatLinR
import Derived.Test.YtepfpgnjpkcgmaaGreatAtomA
set_option linter.unusedSimpArgs false
set_option linter.unnecessarySimpa false
set_option linter.unusedVariables false
set_option linter.constructorNameAsVariable false

/-
  What an open row asks of an atom.
-/
namespace Go.Proofs.YtepfpgnjpkcgmaaGreat
open Go Go.Abs Go.ChangeShapes Go.WideShapes Go.ChangeAt Go.WideMaps Go.WideElems Go.RowKit Go.Limbs
set_option maxRecDepth 100000
theorem hasFs4 {h : TypeId → List PVal → Prop} {a b c d : TypeId} {ps : List PVal} (H : HasFs h [a, b, c, d] ps) : ∃ p q r s, ps = p ++ (q ++ (r ++ (s ++ []))) ∧ h a p ∧ h b q ∧ h c r ∧ h d s := by
  obtain ⟨p, _, rfl, hp, q, _, rfl, hq, r, _, rfl, hr, s, _, rfl, hs, rfl⟩ := H
  exact ⟨p, q, r, s, rfl, hp, hq, hr, hs⟩
theorem prep_atom {H : Type} {enc : TypeId × Value → H} {W : World} {sp : Nat → Bool} {v : Value} {d : DataW H} {ps : List MemPlace} {r : Reach} {b0 : Nat} (hv : Value.okWide Tryz.prog W r b0 55 v) (h : DataW.Trod enc Tryz.prog W 0 sp true 55 v d ps) :
    ∃ x : At, x.p.wf ∧ PRep (allCells W) x.enc v := by
  obtain ⟨c, hc, hp⟩ := prep_val (n := 7) (by kernel_rfl : plainTy Tryz.prog 7 55 = true) hv h
  have hS : isS Tryz.prog 55 = true := by unfold isS; rw [Tryz.underlying55]
  rw [hS] at hp
  have hT : HasFs (HasTy Tryz.prog 6) [3, 27, 3, 3] c := by
    unfold HasTy at hc
    simp only [Tryz.underlying55] at hc
    exact hc
  obtain ⟨p, q, r, s, rfl, h1, h2, h3, h4⟩ := hasFs4 hT
  obtain ⟨k, _, rfl⟩ := hasInt (n := 5) h1
  obtain ⟨x, wx, rfl⟩ := hasPoly (n := 0) h2
  obtain ⟨a, _, rfl⟩ := hasInt (n := 5) h3
  obtain ⟨b, _, rfl⟩ := hasInt (n := 5) h4
  exact ⟨⟨k, x, a, b⟩, wx, hp⟩
end Go.Proofs.YtepfpgnjpkcgmaaGreat
