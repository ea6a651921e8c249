/-
  law3's same, few and awake. No conditions beyond the lemmas' own hypotheses.
-/
import Derived.Test.YtepfpgnjpkcgmaaRatE
import Derived.Test.YtepfpgnjpkcgmaaRatF
set_option linter.unusedSimpArgs false
set_option linter.unnecessarySimpa false
set_option linter.unusedVariables false
set_option linter.constructorNameAsVariable false

/-
  law3: same, few, awake; the functions of fractions at numbers.
-/
namespace Go.Proofs.Ytepfpgnjpkcgmaa
open Go Go.Abs Go.Limbs
variable {base : Prot}
set_option maxRecDepth 20000
attribute [local irreducible] vc
attribute [local simp] pureS touchV freezeL fuel shiftV u64 au
/-! ### At numbers -/
/-! ### same and few -/
def sameF (x y : Fr) : Bool := decide (x.s = y.s) && decide (x.n = y.n) && decide (x.d = y.d)
def sameP (x y : Fr) : PVal := .bool (sameF x y)
theorem sameF_num (p q : Rat) : sameF (ofQ p) (ofQ q) = decide (p = q) := by
  by_cases h : p = q
  · subst h; simp [sameF]
  · rw [decide_eq_false h]
    cases hs : sameF (ofQ p) (ofQ q) with
    | false => rfl
    | true =>
      exfalso
      unfold sameF at hs
      simp only [Bool.and_eq_true, decide_eq_true_eq] at hs
      refine h (ofQ_inj ?_)
      obtain ⟨⟨h1, h2⟩, h3⟩ := hs
      cases hp : ofQ p
      cases hq : ofQ q
      rw [hp, hq] at h1 h2 h3
      simp only at h1 h2 h3
      rw [h1, h2, h3]
theorem sameP_two (p q : Rat) : f2 sameP [(ofQ p).enc, (ofQ q).enc] = some (.bool (decide (p = q))) := by
  rw [f2_at (wf_ofQ p) (wf_ofQ q)]; unfold sameP; rw [sameF_num]
theorem sameP_self (p : Rat) : f2 sameP [(ofQ p).enc, (ofQ p).enc] = some (.bool true) := by rw [sameP_two, decide_eq_true rfl]
theorem rsame_ok : FnOk Try.prog base 22 (pureS (f2 sameP)) := by
  refine pure_of_vc hmix Tsm_ok globNone low22 fun args z hs hf => ?_
  obtain ⟨x, y, wx, wy, rfl, rfl⟩ := f2_some hs
  obtain ⟨s, n, d⟩ := x
  obtain ⟨t, m, e⟩ := y
  refine ⟨by simp [lf22], ?_⟩
  have h1 := sSame_list wx.1 wy.1
  have h2 := sSame_list wx.2 wy.2
  simp only at h1 h2
  simp only [Fr.enc, sameP, sameF]
  obtain ⟨q1, hq1⟩ : ∃ q, q = decide (n = m) := ⟨_, rfl⟩
  obtain ⟨q2, hq2⟩ : ∃ q, q = decide (d = e) := ⟨_, rfl⟩
  rw [← hq1] at h1 ⊢
  rw [← hq2] at h2 ⊢
  cases s <;> cases t <;> cases q1 <;> cases q2 <;> simp [lf22, h1, h2, Tsm_mu, Tsm_fn]
/-! ### awake -/
theorem sQOf_num {n d : Int} (q : Rat) (hn : -1000 ≤ n ∧ n ≤ 1000) (hd : -1000 ≤ d ∧ d ≤ 1000) (h : Rat.divInt n d = q) : sQOf [.int .i64 n, .int .i64 d] = some (ofQ q).enc := by rw [sQOf_at (by omega) (by omega), h]
end Go.Proofs.Ytepfpgnjpkcgmaa
