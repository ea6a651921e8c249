/-
  What nat.Text computes: the decimal numeral. No conditions beyond the lemmas' own hypotheses.
-/
import Derived.Test.YtgbjjikaenlkmaaGreatNatG
import Derived.Test.YtgbjjikaenlkmaaGreatNatE
import Derived.Test.YtgbjjikaenlkmaaGreatAbsThree
import Derived.Lib.Builder
import Derived.Lib.UnsafeStr
import Derived.RegionTactic
import Derived.WalkKit
import Derived.Test.YtgbjjikaenlkmaaGreatNatD
import Derived.Test.YtgbjjikaenlkmaaGreatAbsFour
import Derived.Test.YtgbjjikaenlkmaaGreatNatA
set_option linter.unusedSimpArgs false
set_option linter.unnecessarySimpa false
set_option linter.unusedVariables false
set_option linter.constructorNameAsVariable false

/-
 strings.Builder at this seat: its methods, and what it holds.
-/
namespace Go.Proofs.YtgbjjikaenlkmaaGreat
open Go Go.RowKit Go.Abs
variable {base : Prot}
set_option maxRecDepth 20000
attribute [local simp] pureS touchV freezeL fuel shiftV
end Go.Proofs.YtgbjjikaenlkmaaGreat

/-
 strings.Repeat of a nought, up to 19 times; slices.Backward.
-/
namespace Go.Proofs.YtgbjjikaenlkmaaGreat
open Go Go.Abs Go.Limbs
variable {base : Prot}
set_option maxRecDepth 20000
def eqO (a b : Option PVal) : Bool := match a, b with
 | some x, some y => eqP 5 x y
 | _, _ => false
theorem eqO_ok {a b : Option PVal} (h : eqO a b = true) : a = b := by
 unfold eqO at h
 split at h
 ·rw [eqP_ok _ _ _ h]
 ·cases h
end Go.Proofs.YtgbjjikaenlkmaaGreat

/-
 slices.Backward in a caller: its range.
-/
namespace Go.Proofs.YtgbjjikaenlkmaaGreat
open Go Go.Abs Go.RowKit
variable {base : Prot}
set_option maxRecDepth 20000
section
attribute [local irreducible] vc
attribute [local simp] pureS touchV freezeL fuel shiftV
end
end Go.Proofs.YtgbjjikaenlkmaaGreat

/-
 nat: a number's numeral (Text).
-/
namespace Go.Proofs.YtgbjjikaenlkmaaGreat
open Go Go.Abs Go.Limbs
variable {base : Prot}
set_option maxRecDepth 20000
attribute [local irreducible] vc
attribute [local simp] pureS touchV freezeL fuel shiftV u64
def HasParts (H : Heap) (b L : Nat) : Prop := ∃ j ver e, H[0]? = some ⟨1, 0, false, [.own j 0 L ver], 48⟩ ∧ j < b ∧ H[j]? = some e ∧ e.ver = ver
theorem freeze1_ne {H : Heap} {k q : Nat} (h : q ≠ k) : (freeze1 H k)[q]? = H[q]? := by
 unfold freeze1
 split
 ·rw [List.getElem?_set_ne (Ne.symm h)]
 ·rfl
theorem HasParts.freeze {H : Heap} {b L k : Nat} (h : HasParts H b L) (hk : b ≤ k) (hb : 0 < b) : HasParts (freeze1 H k) b L := by
 obtain ⟨j, ver, e, h1, h2, h3, h4⟩ := h
 exact ⟨j, ver, e, by rw [freeze1_ne (by omega)]; exact h1, h2, by rw [freeze1_ne (by omega)]; exact h3, h4⟩
theorem HasParts.keep {H H' : Heap} {b L : Nat} (h : HasParts H b L) (hb : 0 < b) (hk : ∀ q, q < b → H'[q]? = H[q]?) : HasParts H' b L := by
 obtain ⟨j, ver, e, h1, h2, h3, h4⟩ := h
 exact ⟨j, ver, e, by rw [hk 0 hb]; exact h1, h2, by rw [hk j h2]; exact h3, h4⟩
end Go.Proofs.YtgbjjikaenlkmaaGreat
