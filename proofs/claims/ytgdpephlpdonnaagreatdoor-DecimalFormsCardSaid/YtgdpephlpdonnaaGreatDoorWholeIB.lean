/-
  What whole's functions of ints, texts and quotients compute. No conditions beyond the lemmas' own hypotheses.
-/
import Derived.Test.YtgdpephlpdonnaaGreatDoorWholeIA
import Derived.Test.YtgdpephlpdonnaaGreatDoorNatI
import Derived.Test.YtgdpephlpdonnaaGreatDoorNatH
set_option linter.unusedSimpArgs false
set_option linter.unusedVariables false
set_option linter.constructorNameAsVariable false

/-
  whole: numbers of ints, values, texts, quotients; law2's same and few.
-/
namespace Go.Proofs.YtgdpephlpdonnaaGreatDoor
open Go Go.Abs Go.Limbs
variable {base : Prot}
set_option maxRecDepth 20000
attribute [local irreducible] vc
attribute [local simp] pureS touchV freezeL fuel shiftV u64 au
/-! ### Of -/
def sIOf : List PVal → Option PVal
  | [.int .i64 n] => if -9223372036854775808 ≤ n ∧ n < 9223372036854775808 then some (iN n) else none
  | _ => none
theorem sIOf_at {n : Int} (h1 : -9223372036854775808 ≤ n) (h2 : n < 9223372036854775808) : sIOf [.int .i64 n] = some (iN n) := if_pos ⟨h1, h2⟩
theorem ofL_num {n : Int} (h0 : 0 ≤ n) (h : n < 9223372036854775808) : ofL n = limbs n.natAbs := by
  unfold ofL
  by_cases hz : n ≤ 0
  · have : n = 0 := by omega
    subst this
    simp [limbs_zero]
  · rw [if_neg hz, IntKind.wrap_u64, limbs_small (by omega) (by rw [B_lit]; omega)]
    congr 1
    omega
/-! ### Value -/
/-! ### Text -/
def textI (s : Bool) (l : List Nat) : List UInt8 := if okI s l then (if s then 45 :: Lib.decDigits (val l) else Lib.decDigits (val l)) else []
def sIText : List PVal → Option PVal
  | [.agg [.bool s, .lst xs]] => match decU xs with | some l => some (.str (textI s l)) | none => none
  | _ => none
theorem dec_le {n k : Nat} (h : n < 10 ^ (k + 1)) : (Lib.decDigits n).length ≤ k + 1 := (pad_dec k n h).1
theorem B64_ten : B ^ 64 < 10 ^ (1279 + 1) := by decide +kernel
theorem B64_k : ∃ k, k ≤ 1279 ∧ B ^ 64 ≤ 10 ^ (k + 1) := ⟨1279, Nat.le_refl _, Nat.le_of_lt B64_ten⟩
/-! ### Parse -/
/-! ### law2's same and few -/
def sSameI : List PVal → Option PVal
  | [.agg [.bool s, .lst xs], .agg [.bool t, .lst ys]] => match decU xs, decU ys with | some a, some b => some (.bool (decide (s = t) && decide (a = b))) | _, _ => none
  | _ => none
theorem sSameI_list {s t : Bool} {a b : List Nat} (ha : Wf a) (hb : Wf b) : sSameI [.agg [.bool s, .lst (a.map u64)], .agg [.bool t, .lst (b.map u64)]] = some (.bool (decide (s = t) && decide (a = b))) := by simp only [sSameI, decU_map ha, decU_map hb]
theorem sameI_ok : FnOk Tryz.prog base 21 (pureS sSameI) := by
  refine pure_of_vc hmix Tsm_ok globNone low21 fun args z hs hf => ?_
  unfold sSameI at hs
  split at hs
  case h_2 => cases hs
  rename_i s xs t ys
  split at hs
  case h_2 => cases hs
  rename_i a b ha hb
  obtain ⟨rfl, wa⟩ := decU_some ha
  obtain ⟨rfl, wb⟩ := decU_some hb
  cases hs
  refine ⟨by simp [lf21], ?_⟩
  have h1 := sSame_list wa wb
  obtain ⟨q, hq⟩ : ∃ q, q = decide (a = b) := ⟨_, rfl⟩
  rw [← hq] at h1 ⊢
  by_cases hst : s = t
  · have hbe : (s == t) = true := by simp [hst]
    simp [lf21, hst, hbe, h1, Tsm_mu, Tsm_fn]
  · have hbe : (s == t) = false := by simp [hst]
    simp [lf21, hst, hbe, h1, Tsm_mu, Tsm_fn]
end Go.Proofs.YtgdpephlpdonnaaGreatDoor

/-
  whole: quotients; law2's awake.
-/
namespace Go.Proofs.YtgdpephlpdonnaaGreatDoor
open Go Go.Abs Go.Limbs
variable {base : Prot}
set_option maxRecDepth 20000
attribute [local irreducible] vc
attribute [local simp] pureS touchV freezeL fuel shiftV u64 au
/-! ### Div -/
def cD (z w : Int) : Bool := (decide (z < 0) != decide (w < 0)) && decide (z.natAbs % w.natAbs ≠ 0)
def nD (z w : Int) : Nat := if cD z w then z.natAbs / w.natAbs + 1 else z.natAbs / w.natAbs
def lD (z w : Int) : Nat := if cD z w then w.natAbs - z.natAbs % w.natAbs else z.natAbs % w.natAbs
def qD (z w : Int) : Int := zOf (decide (z < 0) != decide (w < 0)) (nD z w)
end Go.Proofs.YtgdpephlpdonnaaGreatDoor

/-
  whole: calls at numbers; law2's awake.
-/
namespace Go.Proofs.YtgdpephlpdonnaaGreatDoor
open Go Go.Abs Go.Limbs
variable {base : Prot}
set_option maxRecDepth 20000
attribute [local irreducible] vc
attribute [local simp] pureS touchV freezeL fuel shiftV u64 au
theorem iN_raw (z : Int) : iN z = .agg [.bool (decide (z < 0)), .lst ((limbs z.natAbs).map u64)] := rfl
theorem cISame (z w : Int) : sSameI [iN z, iN w] = some (.bool (decide (z = w))) := by
  rw [iN_raw z, iN_raw w, sSameI_list (wf_limbs _) (wf_limbs _)]
  congr 2
  by_cases h : z = w
  · subst h; simp
  · rw [decide_eq_false h]
    by_cases h1 : decide (z < 0) = decide (w < 0)
    · have h2 : ¬ limbs z.natAbs = limbs w.natAbs := fun e => h (by
        have := limbs_inj e
        by_cases hz : z < 0
        · have hw : w < 0 := by simpa [hz] using h1
          omega
        · have hw : ¬ w < 0 := by simpa [hz] using h1
          omega)
      simp [h2]
    · simp [h1]
theorem cISelf (z : Int) : sSameI [iN z, iN z] = some (.bool true) := by rw [cISame, decide_eq_true rfl]
end Go.Proofs.YtgdpephlpdonnaaGreatDoor
