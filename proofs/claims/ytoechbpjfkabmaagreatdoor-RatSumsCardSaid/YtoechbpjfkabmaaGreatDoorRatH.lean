/-
  RatField answers true on all values. No conditions.
-/
import Derived.Test.YtoechbpjfkabmaaGreatDoorRatG
set_option linter.unusedSimpArgs false
set_option linter.unusedVariables false
set_option linter.constructorNameAsVariable false

/-
  law3: same and few; RatField, RatFloors, RatInts answer true.
-/
namespace Go.Proofs.YtoechbpjfkabmaaGreatDoor
open Go Go.Abs Go.Limbs
variable {base : Prot}
set_option maxRecDepth 20000
attribute [local irreducible] vc
attribute [local simp] pureS touchV freezeL fuel shiftV u64 au
def sLw1 : List PVal → Option PVal := f1 fun _ => .bool true
def sLw2 : List PVal → Option PVal := f2 fun _ _ => .bool true
def sLw3 : List PVal → Option PVal
  | [a, b, c] => match decF a, decF b, decF c with | some _, some _, some _ => some (.bool true) | _, _, _ => none
  | _ => none
theorem sLw3_some {args : List PVal} {z : PVal} (h : sLw3 args = some z) : ∃ x y w : Fr, x.wf ∧ y.wf ∧ w.wf ∧ args = [x.enc, y.enc, w.enc] ∧ z = .bool true := by
  unfold sLw3 at h
  split at h
  · split at h
    · rename_i x y w hx hy hw
      cases h
      obtain ⟨rfl, wx⟩ := decF_some hx
      obtain ⟨rfl, wy⟩ := decF_some hy
      obtain ⟨rfl, ww⟩ := decF_some hw
      exact ⟨x, y, w, wx, wy, ww, rfl, rfl⟩
    · cases h
  · cases h
theorem few_Sm {p q : Rat} (h : fewF (ofQ p) (ofQ q) = true) : Sm 10 p ∧ Sm 10 q := by
  unfold fewF ofQ at h
  simp only [Bool.and_eq_true, decide_eq_true_eq] at h
  exact ⟨⟨h.1.1, h.1.2⟩, h.2.1, h.2.2⟩
end Go.Proofs.YtoechbpjfkabmaaGreatDoor
