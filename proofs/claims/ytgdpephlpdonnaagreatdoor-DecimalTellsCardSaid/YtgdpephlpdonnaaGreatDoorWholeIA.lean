/-
  What whole's functions compute: what is a number, the order, sums, products, signs. No conditions beyond the lemmas' own hypotheses.
-/
import Derived.Test.YtgdpephlpdonnaaGreatDoorWholeM
import Derived.Test.YtgdpephlpdonnaaGreatDoorNatE
set_option linter.unusedSimpArgs false
set_option linter.unusedVariables false
set_option linter.constructorNameAsVariable false

/-
  whole: what is a number, signs, the order, sums and products of any size.
-/
namespace Go.Proofs.YtgdpephlpdonnaaGreatDoor
open Go Go.Abs Go.Limbs
variable {base : Prot}
set_option maxRecDepth 20000
attribute [local irreducible] vc
attribute [local simp] pureS touchV freezeL fuel shiftV u64 au
/-! ### Whole numbers as pure values -/
def iP (s : Bool) (l : List Nat) : PVal := .agg [.bool s, .lst (l.map u64)]
def iN (z : Int) : PVal := iP (decide (z < 0)) (limbs z.natAbs)
def zOf (s : Bool) (n : Nat) : Int := if s then -(n : Int) else n
def okI (s : Bool) (l : List Nat) : Bool := okL l && (!s || decide (0 < l.length))
/-- Numbers of at most so many limbs. -/
def zl (z : Int) : Nat := len z.natAbs
theorem zOf_abs (s : Bool) (n : Nat) : (zOf s n).natAbs = n := by cases s <;> simp [zOf]
theorem iP_zOf {s : Bool} {n : Nat} (h : s = true → n ≠ 0) : iP s (limbs n) = iN (zOf s n) := by
  unfold iN
  rw [zOf_abs]
  congr 1
  cases s with
  | false => simp [zOf]
  | true => have := h rfl; simp [zOf]; omega
theorem wide_zOf (s : Bool) (n : Nat) : iP (s && decide (0 < (limbs n).length)) (limbs n) = iN (zOf s n) := by
  by_cases h : n = 0
  · subst h
    rw [limbs_zero]
    cases s <;> simp [iN, zOf, limbs_zero]
  · have hl : 0 < (limbs n).length := by
      have : (limbs n).length ≠ 0 := fun e => h (len_eq_zero.1 e)
      omega
    rw [decide_eq_true hl, Bool.and_true]
    exact iP_zOf fun _ => h
theorem okI_of {s : Bool} {l : List Nat} (h : okI s l = true) : ∃ z : Int, zl z ≤ 64 ∧ s = decide (z < 0) ∧ l = limbs z.natAbs := by
  unfold okI at h
  simp only [Bool.and_eq_true, Bool.or_eq_true, Bool.not_eq_true', decide_eq_true_eq] at h
  obtain ⟨n, rfl, hn⟩ := okL_true h.1
  have hs : s = true → n ≠ 0 := fun e h0 => by
    subst h0
    rcases h.2 with h2 | h2
    · rw [e] at h2; cases h2
    · rw [limbs_zero] at h2; simp at h2
  refine ⟨zOf s n, by unfold zl; rw [zOf_abs]; exact hn, ?_, by rw [zOf_abs]⟩
  cases s with
  | false => simp [zOf]
  | true => have := hs rfl; simp [zOf]; omega
theorem okI_num {z : Int} (h : zl z ≤ 64) : okI (decide (z < 0)) (limbs z.natAbs) = true := by
  unfold okI
  rw [okL_limbs h, Bool.true_and]
  by_cases hz : z < 0
  · have : (limbs z.natAbs).length ≠ 0 := fun e => by have := len_eq_zero.1 e; omega
    have hl : 0 < (limbs z.natAbs).length := by omega
    simp [hz, hl]
  · simp [hz]
theorem zOf_sign (z : Int) : zOf (decide (z < 0)) z.natAbs = z := by
  by_cases h : z < 0
  · simp [zOf, h]; omega
  · simp [zOf, h]; omega
/-! ### Valid and Wide -/
def sIV : List PVal → Option PVal
  | [.agg [.bool s, .lst xs]] => match decU xs with | some l => some (.bool (okI s l)) | none => none
  | _ => none
theorem sIV_list {s : Bool} {l : List Nat} (h : Wf l) : sIV [.agg [.bool s, .lst (l.map u64)]] = some (.bool (okI s l)) := by simp only [sIV, decU_map h]
def sWide : List PVal → Option PVal
  | [.bool s, .lst xs] => match decU xs with | some l => some (iP (s && decide (0 < l.length)) l) | none => none
  | _ => none
theorem sWide_num (s : Bool) (n : Nat) : ∃ b l, iN (zOf s n) = iP b l ∧ Wf l ∧ sWide [.bool s, .lst ((limbs n).map u64)] = some (.agg [.bool b, .lst (l.map u64)]) :=
  ⟨_, _, (wide_zOf s n).symm, wf_limbs n, by simp only [sWide, decU_map (wf_limbs n)]; rfl⟩
/-! ### The order -/
end Go.Proofs.YtgdpephlpdonnaaGreatDoor

/-
  whole: sums, products, the order, signs and negatives, as called from outside.
-/
namespace Go.Proofs.YtgdpephlpdonnaaGreatDoor
open Go Go.Abs Go.Limbs
variable {base : Prot}
set_option maxRecDepth 20000
attribute [local irreducible] vc
attribute [local simp] pureS touchV freezeL fuel shiftV u64 au
/-! ### As called from outside -/
def hN (z : Int) : PVal := if zl z ≤ 64 then iN z else iP false []
def hE (z : Int) : Int := if zl z ≤ 64 then 0 else 4
def zL (s : Bool) (l : List Nat) : Int := zOf s (val l)
theorem zL_num (z : Int) : zL (decide (z < 0)) (limbs z.natAbs) = z := by unfold zL; rw [val_limbs, zOf_sign]
end Go.Proofs.YtgdpephlpdonnaaGreatDoor
