/-
  law3's same, few and awake. No conditions beyond the lemmas' own hypotheses.
-/
import Derived.Test.YtgbjjikaenlkmaaGreatRatE
import Derived.Test.YtgbjjikaenlkmaaGreatRatF
set_option linter.unusedSimpArgs false
set_option linter.unnecessarySimpa false
set_option linter.unusedVariables false
set_option linter.constructorNameAsVariable false

/-
 law3: same, few, awake; the functions of fractions at numbers.
-/
namespace Go.Proofs.YtgbjjikaenlkmaaGreat
open Go Go.Abs Go.Limbs
variable {base : Prot}
set_option maxRecDepth 20000
attribute [local irreducible] vc
attribute [local simp] pureS touchV freezeL fuel shiftV u64 au
def sameF (x y : Fr) : Bool := decide (x.s = y.s) && decide (x.n = y.n) && decide (x.d = y.d)
def sameP (x y : Fr) : PVal := .bool (sameF x y)
theorem rsame_ok : FnOk Tryz.prog base 36 (pureS (f2 sameP)) := by
 refine pure_of_vc hmix Tsm_ok globNone low36 fun args z hs hf => ?_
 obtain ⟨x, y, wx, wy, rfl, rfl⟩ := f2_some hs
 obtain ⟨s, n, d⟩ := x
 obtain ⟨t, m, e⟩ := y
 refine ⟨by simp [lf36], ?_⟩
 have h1 := sSame_list wx.1 wy.1
 have h2 := sSame_list wx.2 wy.2
 simp only at h1 h2
 simp only [Fr.enc, sameP, sameF]
 obtain ⟨q1, hq1⟩ : ∃ q, q = decide (n = m) := ⟨_, rfl⟩
 obtain ⟨q2, hq2⟩ : ∃ q, q = decide (d = e) := ⟨_, rfl⟩
 rw [← hq1] at h1 ⊢
 rw [← hq2] at h2 ⊢
 cases s <;> cases t <;> cases q1 <;> cases q2 <;> simp [lf36, h1, h2, Tsm_mu, Tsm_fn]
end Go.Proofs.YtgbjjikaenlkmaaGreat
