/-
  What whole's functions of ints, texts and quotients compute. No conditions beyond the lemmas' own hypotheses.
-/
import Derived.Test.YtepfpgnjpkcgmaaWholeIA
import Derived.Test.YtepfpgnjpkcgmaaNatI
import Derived.Test.YtepfpgnjpkcgmaaNatH
set_option linter.unusedSimpArgs false
set_option linter.unnecessarySimpa false
set_option linter.unusedVariables false
set_option linter.constructorNameAsVariable false

/-
  whole: numbers of ints, values, texts, quotients; law2's same and few.
-/
namespace Go.Proofs.Ytepfpgnjpkcgmaa
open Go Go.Abs Go.Limbs
variable {base : Prot}
set_option maxRecDepth 20000
attribute [local irreducible] vc
attribute [local simp] pureS touchV freezeL fuel shiftV u64 au
/-! ### Of -/
def sIOf : List PVal → Option PVal
  | [.int .i64 n] => if -9223372036854775808 ≤ n ∧ n < 9223372036854775808 then some (iN n) else none
  | _ => none
theorem sIOf_at {n : Int} (h1 : -9223372036854775808 ≤ n) (h2 : n < 9223372036854775808) : sIOf [.int .i64 n] = some (iN n) := if_pos ⟨h1, h2⟩
theorem ofL_num {n : Int} (h0 : 0 ≤ n) (h : n < 9223372036854775808) : ofL n = limbs n.natAbs := by
  unfold ofL
  by_cases hz : n ≤ 0
  · have : n = 0 := by omega
    subst this
    simp [limbs_zero]
  · rw [if_neg hz, IntKind.wrap_u64, limbs_small (by omega) (by rw [B_lit]; omega)]
    congr 1
    omega
def Tof : Tab := Tab.none.with 78 (pureS sOf)
theorem Tof_ok : TabOk Try.prog base Tof := Tab.with_ok Tab.none_ok of_ok
theorem Tof_mu (f : FuncId) (a : List AVal) (H : Heap) : Tof.mu f a H = none := (rfl)
theorem Tof_fn : Tof.fn 78 = pureS sOf := (rfl)
theorem iof_ok : FnOk Try.prog base 66 (pureS sIOf) := by
  refine pure_of_vc hmix Tof_ok globNone low66 fun args z hs hf => ?_
  unfold sIOf at hs
  split at hs
  case h_2 => cases hs
  rename_i n
  split at hs
  case isFalse => cases hs
  rename_i hc
  cases hs
  refine ⟨by simp [lf66], ?_⟩
  by_cases h0 : 0 ≤ n
  · have h1 : sOf [.int .i64 n] = some (.lst ((ofL n).map u64)) := rfl
    rw [ofL_num h0 hc.2] at h1
    have hn : ¬ n < 0 := by omega
    simp [lf66, h0, h1, hn, iN, iP, fillS, Tof_mu, Tof_fn]
  · have hn : n < 0 := by omega
    have w1 : IntKind.u64.wrap n = n + 18446744073709551616 := by rw [IntKind.wrap_u64]; omega
    obtain ⟨m, hm⟩ : ∃ m, m = n.natAbs := ⟨_, rfl⟩
    have w2 : IntKind.u64.wrap (-(n + 18446744073709551616)) = (m : Int) := by rw [IntKind.wrap_u64]; omega
    have hl : limbs m = [m] := limbs_small (by omega) (by rw [B_lit]; omega)
    unfold iN iP
    rw [← hm, hl]
    simp [lf66, h0, hn, w1, w2, fillS]
/-! ### Value -/
/-! ### Text -/
/-! ### Parse -/
/-! ### law2's same and few -/
end Go.Proofs.Ytepfpgnjpkcgmaa

/-
  whole: quotients; law2's awake.
-/
namespace Go.Proofs.Ytepfpgnjpkcgmaa
open Go Go.Abs Go.Limbs
variable {base : Prot}
set_option maxRecDepth 20000
attribute [local irreducible] vc
attribute [local simp] pureS touchV freezeL fuel shiftV u64 au
/-! ### Div -/
end Go.Proofs.Ytepfpgnjpkcgmaa

/-
  whole: calls at numbers; law2's awake.
-/
namespace Go.Proofs.Ytepfpgnjpkcgmaa
open Go Go.Abs Go.Limbs
variable {base : Prot}
set_option maxRecDepth 20000
attribute [local irreducible] vc
attribute [local simp] pureS touchV freezeL fuel shiftV u64 au
end Go.Proofs.Ytepfpgnjpkcgmaa
