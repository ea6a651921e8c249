/-
  What an open row asks of sets of spans and lists. No conditions beyond the lemmas' own hypotheses.
-/
import Derived.Test.YtepfpgnjpkcgmaaGreatAtomR
import Derived.Test.YtepfpgnjpkcgmaaGreatFeasB
set_option linter.unusedSimpArgs false
set_option linter.unnecessarySimpa false
set_option linter.unusedVariables false
set_option linter.constructorNameAsVariable false

/-
 What an open row asks of sets of spans, lists of fractions and lists of ints.
-/
namespace Go.Proofs.YtepfpgnjpkcgmaaGreat
open Go Go.Abs Go.ChangeShapes Go.WideShapes Go.ChangeAt Go.WideMaps Go.WideElems Go.RowKit Go.Limbs
set_option maxRecDepth 100000
theorem hasFs6 {h : TypeId → List PVal → Prop} {a b c d e f : TypeId} {ps : List PVal} (H : HasFs h [a, b, c, d, e, f] ps) : ∃ p q r s t u, ps = p ++ (q ++ (r ++ (s ++ (t ++ (u ++ []))))) ∧ h a p ∧ h b q ∧ h c r ∧ h d s ∧ h e t ∧ h f u := by
 obtain ⟨p, _, rfl, hp, q, _, rfl, hq, r, _, rfl, hr, s, _, rfl, hs, t, _, rfl, ht, u, _, rfl, hu, rfl⟩ := H
 exact ⟨p, q, r, s, t, u, rfl, hp, hq, hr, hs, ht, hu⟩
theorem hasSpan {n : Nat} {c : List PVal} (h : HasTy Tryz.prog (n + 4) 101 c) : ∃ x : Sp, x.wf ∧ .agg c = x.enc := by
 have hT : HasFs (HasTy Tryz.prog (n + 3)) [25, 25, 4, 4, 4, 4] c := by
  unfold HasTy at h
  simp only [Tryz.underlying101] at h
  exact h
 obtain ⟨p, q, r, s, t, u, rfl, h1, h2, h3, h4, h5, h6⟩ := hasFs6 hT
 obtain ⟨x, wx, rfl⟩ := hasRat h1
 obtain ⟨y, wy, rfl⟩ := hasRat h2
 obtain ⟨b1, rfl⟩ := hasBool h3
 obtain ⟨b2, rfl⟩ := hasBool h4
 obtain ⟨b3, rfl⟩ := hasBool h5
 obtain ⟨b4, rfl⟩ := hasBool h6
 exact ⟨⟨x, y, b1, b2, b3, b4⟩, ⟨wx, wy⟩, rfl⟩
section
variable {H : Type} {enc : TypeId × Value → H} {W : World} {sp : Nat → Bool} {v : Value} {d : DataW H} {ps : List MemPlace} {r : Reach} {b0 : Nat}
theorem prep_spans (hv : Value.okWide Tryz.prog W r b0 80 v) (h : DataW.Trod enc Tryz.prog W 0 sp true 80 v d ps) :
  ∃ l : List Sp, wfSs l ∧ PRep (allCells W) (.lst (l.map Sp.enc)) v := by
 obtain ⟨c, hc, hp⟩ := prep_val (n := 6) (by kernel_rfl : plainTy Tryz.prog 6 80 = true) hv h
 have hS : isS Tryz.prog 80 = false := by unfold isS; rw [Tryz.underlying80]
 have hE : isS Tryz.prog 101 = true := by unfold isS; rw [Tryz.underlying101]
 rw [hS] at hp
 obtain ⟨l, wl, rfl⟩ := hasList (enc := Sp.enc) (wf := Sp.wf) Tryz.underlying80 (fun c h => by rw [hE]; exact hasSpan (n := 1) h) hc
 exact ⟨l, wl, hp⟩
end
end Go.Proofs.YtepfpgnjpkcgmaaGreat
