/-
  FeasTells and FeasOf answer true on all values. No conditions.
-/
import Derived.Test.YtepfpgnjpkcgmaaGreatFeasF
set_option linter.unusedSimpArgs false
set_option linter.unnecessarySimpa false
set_option linter.unusedVariables false
set_option linter.constructorNameAsVariable false

/-
 law22: FeasTells and FeasOf answer true.
-/
namespace Go.Proofs.YtepfpgnjpkcgmaaGreat
open Go Go.Abs Go.Limbs
variable {base : Prot}
set_option maxRecDepth 20000
attribute [local irreducible] vc
attribute [local simp] pureS touchV freezeL fuel shiftV u64 au
theorem tiny_few {l : List Sp} (h : fewS22 l = true) : tinyL l = true ∧ l.length ≤ 10 := by
 unfold fewS22 at h
 rw [Bool.and_eq_true] at h
 have hl := of_decide_eq_true h.2
 have ha := h.1
 rw [List.take_of_length_le (by omega)] at ha
 refine ⟨?_, hl⟩
 unfold tinyL
 rw [Bool.and_eq_true]
 refine ⟨decide_eq_true (by omega), List.all_eq_true.2 fun x hx => ?_⟩
 have := List.all_eq_true.1 ha x hx
 unfold fewSp fewF1 at this
 unfold tinySp tinyF
 simp only [Bool.and_eq_true, decide_eq_true_eq] at this ⊢
 omega
theorem same_self (l : List Sp) (w : wfSs l) : ss2 sameSs [.lst (l.map Sp.enc), .lst (l.map Sp.enc)] = some (.bool true) := by
 rw [ss2_at w w]; unfold sameSs; rw [decide_eq_true rfl]
theorem wf_insideS {x : Sp} (w : x.wf) : (insideS x).1.wf := by
 unfold insideS
 split
 ·exact wf_ofQ _
 split
 ·exact w.1
 split
 ·exact w.2
 split
 ·exact wf_heldQ _
 split
 ·exact wf_heldQ _
 ·exact wf_heldQ _
theorem wf_turnS {nt : Bool} {s : List Sp} (h : wfSs s) : wfSs (turnS nt s) := by
 unfold turnS
 split
 ·exact wf_otherL h
 ·exact h
theorem wf_ofAt {lk : Int → Fr} {x : At} {nt : Bool} {v : Int} : wfSs (ofAt lk x nt v).1 := by
 have hn : wfSs [] := fun y hy => by cases hy
 unfold ofAt
 split
 ·split
  ·split
   ·exact wf_turnS (wf_cutS (wf_quoF _ _))
   ·exact hn
  ·exact hn
 ·exact hn
theorem few_of_at {x : At} (h : fewPo x.p = true) : x.p.few = true := by
 unfold fewPo at h
 simp only [Bool.and_eq_true, decide_eq_true_eq] at h
 exact decide_eq_true (by omega)
theorem len_of_few {l : List Bd} (h : fewB l = true) : l.length ≤ 12 := by
 unfold fewB at h
 rw [Bool.and_eq_true] at h
 exact of_decide_eq_true h.2
end Go.Proofs.YtepfpgnjpkcgmaaGreat
